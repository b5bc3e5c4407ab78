/-
  Several texts in one: Asb6 Asb7 Asr Asb8 Mxd Ps3 Ps4.
  Conditions: named at each.
-/
import Derived.Test.YtcdjakemdlinhaaGreatDoorG08
set_option linter.unusedSimpArgs false
set_option linter.unusedVariables false
set_option linter.unusedSectionVars false
namespace Go.Proofs.YtcdjakemdlinhaaGreatDoor.Sx
open Go.ChangeShapes Go.WideShapes Go.ChangeAt Go.RowKit Go.Deep
theorem unwrap_any (eA : Addr) (s : List UInt8) (e : Er) (w : World) : Calls Tryz.prog 359 #[.agg #[.string (B s), e.V eA]] w (Ret (e.V eA) w) := by
 refine sx_enter (f := 359) 5 View.no Tryz.func359 rfl rfl rfl (fun _ _ h => by cases h) ?_
 refine zs (zr (sx_N (fun b0 => (zq 1 (zn (zB [0,1,0] [(b0,1)] (zn (sx_ret (sx_Z [2] [(Er.V eA e)] (fun W' hM => ?_))))))))))
 exact ⟨rfl,hM.below⟩
theorem isEr_any (eA : Addr) (e : Er) (w : World) : Calls Tryz.prog 221 #[e.V eA, .iface 338 (.pointer (some eA)), .bool true] w (Ret (.bool true) w) := by
 refine sx_enter (f := 221) 54 View.no Tryz.func221 rfl rfl rfl (fun _ _ h => by cases h) ?_
 refine zQ 1 (zn (sx_block ?_))
 refine sx_loop (α := Er) (fun x => [0,1,2,6].zip [(Er.V eA x),(.iface 338 (.pointer (some eA))),(.bool true),(.bool false)]) (fun x => View.no) (fun x => []) (fun x => True) (fun x => x.deep) e ?_ (look_zip _ _ (by kernel_rfl)) (fun _ h => h.eqv (by kernel_rfl)) ?_
 · trivial
 intro x hx
 cases x with
 | leaf =>
  refine sx_block (zs (zQ 4 (sx_R (.bool true) (run_ifS _ _ _ _ rfl 338 431 eA (by kernel_rfl) (by kernel_rfl) Tryz.underlying208 Tryz.underlying338 (by kernel_rfl) (by kernel_rfl)) ?_)))
  refine zq 1 (zn (sx_T (zQ 1 (zn (sx_ret (sx_Z [6] [(.bool true)] (fun W' hM => ?_)))))))
  exact ⟨rfl,hM.below⟩
 | wrap s2 e2 =>
  refine sx_block (zs (zQ 4 (sx_R (.bool false) (run_ifT _ _ _ _ rfl 281 338 (.agg #[(St s2),(Er.V eA e2)]) (.pointer (some eA)) (by kernel_rfl) (by kernel_rfl) Tryz.underlying208 (by decide)) ?_)))
  refine zq 1 (zn (sx_F (zk (zs (zQ 1 (sx_R (.tuple #[.nilIface,(.bool false)]) (run_taN _ _ _ rfl 281 (.agg #[(St s2),(Er.V eA e2)]) (by kernel_rfl) Tryz.underlying302 (by kernel_rfl) (by kernel_rfl)) ?_))))))
  refine zq 5 (zn (zQ 6 (zn (sx_F (zk (zQ 1 (zn (sx_block (zs (zr (sx_R (.tuple #[(.iface 281 (.agg #[(St s2),(Er.V eA e2)])),(.bool true)]) (run_taY _ _ _ rfl 281 (.agg #[(St s2),(Er.V eA e2)]) (by kernel_rfl) Tryz.underlying304 (by kernel_rfl)) ?_)))))))))))
  refine zq 2 (zn (sx_T (zQ 1 (zn (zQ 1 (sx_C 359 #[(.agg #[(St s2),(Er.V eA e2)])] (Er.V eA e2) (fun W hM => unwrap_any eA s2 e2 W) ?_))))))
  refine zq 1 (zn (zQ 1 (sx_R (.bool false) (run_er .eql false _ _ _ _ rfl (Or.inl ⟨rfl,rfl⟩) (by kernel_rfl) eA e2 (by kernel_rfl) (by kernel_rfl)) ?_)))
  refine zn (sx_F (zk ?_))
  refine ⟨e2,?_,?_,look_zip _ _ (by kernel_rfl),fun _ h => h.eqv (by kernel_rfl)⟩
  · trivial
  · show e2.deep < e2.deep + 1; exact Nat.lt_succ_self _
theorem isErr_any (eA : Addr) (e : Er) (w : World) : Calls Tryz.prog 190 #[e.V eA, .iface 338 (.pointer (some eA))] w (Ret (.bool true) w) := by
 refine sx_enter (f := 190) 22 View.no Tryz.func190 rfl rfl rfl (fun _ _ h => by cases h) ?_
 refine zQ 1 (zn (zs (zQ 1 (sx_R (.bool false) (run_er .eql false _ _ _ _ rfl (Or.inl ⟨rfl,rfl⟩) (by kernel_rfl) eA e (by kernel_rfl) (by kernel_rfl)) ?_))))
 refine zq 2 (sx_R (.bool false) (run_if0 .eql false _ _ _ _ rfl (Or.inl ⟨rfl,rfl⟩) (by kernel_rfl) 338 (.pointer (some eA)) (by kernel_rfl) (by kernel_rfl)) ?_)
 refine zq 1 (zn (sx_F (zk (zQ 4 (zn (zQ 3 (sx_C 221 #[(Er.V eA e),(.iface 338 (.pointer (some eA))),(.bool true)] (.bool true) (fun W hM => isEr_any eA e W) ?_)))))))
 refine zq 1 (zn (sx_ret (sx_Z [4] [(.bool true)] (fun W' hM => ?_))))
 exact ⟨rfl,hM.below⟩
theorem isNil_any (eA : Addr) (w : World) : Calls Tryz.prog 190 #[.nilIface, .iface 338 (.pointer (some eA))] w (Ret (.bool false) w) := by
 refine sx_enter (f := 190) 22 View.no Tryz.func190 rfl rfl rfl (fun _ _ h => by cases h) ?_
 refine zQ 1 (zn (zs (zQ 1 (sx_R (.bool true) (run_if00 .eql true _ _ _ rfl (Or.inl ⟨rfl,rfl⟩) (by kernel_rfl) (by kernel_rfl)) ?_))))
 refine zq 4 (zn (sx_T (zQ 2 (sx_R (.bool false) (run_if0L _ _ _ _ rfl 338 (.pointer (some eA)) (by kernel_rfl) (by kernel_rfl) Tryz.underlying208) ?_))))
 refine zq 1 (zn (sx_ret (sx_Z [4] [(.bool false)] (fun W' hM => ?_))))
 exact ⟨rfl,hM.below⟩
theorem isForm_er (eA : Addr) (e : Er) (w : World) {U : View} (hU : ∀ a v, U a = some v → w.cell? a = some v) (hE : EF U eA) : Calls Tryz.prog 140 #[e.V eA] w (Ret (.bool true) w) := by
 refine sx_enter (f := 140) 6 U Tryz.func140 rfl rfl rfl hU ?_
 refine zQ 1 (zn (zQ 1 (zV 0 (0) (.iface 338 (.pointer (some eA))) hE 208 (.global 0) _ Tryz.underlying208 rfl ?_)))
 refine sx_C 190 #[(Er.V eA e),(.iface 338 (.pointer (some eA)))] (.bool true) (fun W hM => isErr_any eA e W) ?_
 refine zq 1 (zn (sx_ret (sx_Z [2] [(.bool true)] (fun W' hM => ?_))))
 exact ⟨rfl,hM.below⟩
theorem isForm_nil (eA : Addr) (w : World) {U : View} (hU : ∀ a v, U a = some v → w.cell? a = some v) (hE : EF U eA) : Calls Tryz.prog 140 #[.nilIface] w (Ret (.bool false) w) := by
 refine sx_enter (f := 140) 6 U Tryz.func140 rfl rfl rfl hU ?_
 refine zQ 1 (zn (zQ 1 (zV 0 (0) (.iface 338 (.pointer (some eA))) hE 208 (.global 0) _ Tryz.underlying208 rfl ?_)))
 refine sx_C 190 #[.nilIface,(.iface 338 (.pointer (some eA)))] (.bool false) (fun W hM => isNil_any eA W) ?_
 refine zq 1 (zn (sx_ret (sx_Z [2] [(.bool false)] (fun W' hM => ?_))))
 exact ⟨rfl,hM.below⟩
theorem wrong_any (eA : Addr) (l : List UInt8) (w : World) {U : View} (hU : ∀ a v, U a = some v → w.cell? a = some v) (hE : EF U eA) : Calls Tryz.prog 184 #[.string (B l)] w (Ret ((Er.wrap l .leaf).V eA) w) := by
 refine sx_enter (f := 184) 7 U Tryz.func184 rfl rfl rfl hU ?_
 refine zQ 1 (zn (zQ 1 (zV 0 (0) (.iface 338 (.pointer (some eA))) hE 208 (.global 0) _ Tryz.underlying208 rfl ?_)))
 refine zq 3 (zn (sx_ret (sx_Z [2] [(.iface 281 (.agg #[(St l),(.iface 338 (.pointer (some eA)))]))] (fun W' hM => ?_))))
 exact ⟨rfl,hM.below⟩
theorem num_ok (eA : Addr) (t : Itm.Tr) (aT : Option Addr) (cT : Nat) (w : World) {U : View} (hU : ∀ a v, U a = some v → w.cell? a = some v) (h : (t.k == 0) = true) (hn : t.n < W64) : Calls Tryz.prog 186 #[.agg #[.int .i64 t.k, .int .u64 t.n, .string (B t.s), .slice aT t.l.length cT, .bool t.o]] w (Ret (.tuple #[.int .i64 ((min t.n 65536 : Nat) : Int), .nilIface]) w) := by
 have h' : (t.k != 0) = false := by simpa using h
 have hw : IntKind.i64.wrap (if 65536 < (t.n : Int) then 65536 else (t.n : Int)) = ((min t.n 65536 : Nat) : Int) := by
  rw [IntWalk.i64_in _ (by split <;> omega)]
  split <;> omega
 refine sx_enter (f := 186) 12 U Tryz.func186 rfl rfl rfl hU ?_
 refine zs (zr (sx_N (fun b0 => (zq 2 (zn (zs (zB [0,1,0] [(b0,1)] (zn (sx_F' (t.k != 0) h' ?_)))))))))
 refine zk (zB [0,1,0,0] [(b0,1)] (sx_E 11 (I6 (IntKind.i64.wrap (if 65536 < (t.n : Int) then 65536 else (t.n : Int)))) (I6 ((min t.n 65536 : Nat) : Int)) (congrArg (Value.int .i64) hw) ?_))
 refine zq 2 (zn (sx_ret (sx_Z [2,3] [(I6 ((min t.n 65536 : Nat) : Int)),.nilIface] (fun W' hM => ?_))))
 exact ⟨rfl,hM.below⟩
theorem num_no (eA : Addr) (t : Itm.Tr) (aT : Option Addr) (cT : Nat) (w : World) {U : View} (hU : ∀ a v, U a = some v → w.cell? a = some v) (hE : EF U eA) (h : (t.k == 0) = false) : Calls Tryz.prog 186 #[.agg #[.int .i64 t.k, .int .u64 t.n, .string (B t.s), .slice aT t.l.length cT, .bool t.o]] w (Ret (.tuple #[.int .i64 0, (Er.wrap [110, 117, 109, 98, 101, 114] .leaf).V eA]) w) := by
 have h' : (t.k != 0) = true := by simpa using h
 refine sx_enter (f := 186) 12 U Tryz.func186 rfl rfl rfl hU ?_
 refine zs (zr (sx_N (fun b0 => (zq 2 (zn (zs (zB [0,1,0] [(b0,1)] (zn (sx_T' (t.k != 0) h' ?_)))))))))
 refine zs (zr (sx_C 184 #[(St [110,117,109,98,101,114])] (Er.V eA (Er.wrap [110,117,109,98,101,114] .leaf)) (fun W hM => wrong_any eA [110,117,109,98,101,114] W hM.view hE) ?_))
 refine zq 2 (zn (sx_ret (sx_Z [2,3] [(I6 0),(Er.V eA (Er.wrap [110,117,109,98,101,114] .leaf))] (fun W' hM => ?_))))
 exact ⟨rfl,hM.below⟩
set_option maxHeartbeats 16000000 in
theorem readTargets_any (eA : Addr) (t : Itm.Tr) (aT : Option Addr) (cT : Nat) (w : World) {U : View} (hU : ∀ a v, U a = some v → w.cell? a = some v) (hE : EF U eA) (hts : TsAt U aT t.l) (h47 : t.l.length ≤ 1000000) : Calls Tryz.prog 185 #[.agg #[.int .i64 t.k, .int .u64 t.n, .string (B t.s), .slice aT t.l.length cT, .bool t.o]] w (RetN w U (LRes InR 1 eA (tgtR t))) := by
 refine sx_enter (f := 185) 32 U Tryz.func185 rfl rfl rfl hU ?_
 refine zs (zr (sx_N (fun b0 => (zq 2 (zn (zQ 1 (zn (zs (zB [0,1,0,0] [(b0,1)] (zn (sx_block ?_)))))))))))
 refine sx_loop (α := Gp Int) (fun x => [2,3,4,10,11,12].zip [S0,.nilIface,(x.r.V x.i),(.slice aT t.l.length cT),(L6 t.l.length),(L6 x.i)]) (fun x => x.V) (fun x => ([(bK b0 [(I6 t.k),(N6 t.n),(St t.s),(.slice aT t.l.length cT),(.bool t.o)] 89)] ++ x.r.B 3 x.xs)) (fun x => x.i ≤ t.l.length ∧ View.le U x.V ∧ RwR InR 1 x.V x.r x.xs x.i x.L ∧ mapO numR (t.l.take x.i) = some (x.L.map Prod.fst)) (fun x => t.l.length - x.i) ⟨0,Rw.nil,[],[],U⟩ ?_ (look_zip _ _ (by kernel_rfl)) (fun _ h => h.eqv (Eq.trans (by kernel_rfl) (List.append_nil ([(bK b0 [(I6 t.k),(N6 t.n),(St t.s),(.slice aT t.l.length cT),(.bool t.o)] 89)] : Blks)).symm)) ?_
 · exact ⟨Nat.zero_le _,View.le_refl _,RwR.nil,rfl⟩
 intro x hx
 obtain ⟨hxi,hxl,hxr,hxp⟩ := hx
 refine zQ 1 (zn (zs (sx_D (decide (((x.i : Nat) : Int) < (((t.l.length : Nat)) : Int))) (fun h0 => ?_) (fun h0 => ?_))))
 ·
  have h0d := of_decide_eq_true h0
  refine zk (zs (sx_block (zs (zr ?_))))
  obtain ⟨y1,hy1⟩ : ∃ y,(t.l)[x.i]? = some y := ⟨(t.l)[x.i]'(by omega),List.getElem?_eq_getElem _⟩
  obtain ⟨b1,f1,cs1,rfl,hU1,ht1⟩ := (hts.le hxl).at_ x.i y1 hy1
  obtain ⟨a1,c1,rfl,hts1,hn1,hs1,hl1⟩ := ht1.form
  refine sx_R (Pt b1 (f1 + x.i * 5)) (rIx 89 rfl b1 f1 t.l.length cT x.i 5) ?_
  refine zU b1 (f1 + x.i * 5) [(I6 y1.k),(N6 y1.n),(St y1.s),(.slice a1 y1.l.length c1),(.bool y1.o)] hU1 89 (.tmp 14) _ Tryz.underlying89 rfl ?_
  refine sx_NI 1 (fun b2 => ?_)
  refine sx_S 1 b2 (zn (zB [2] [(b2,5)] ?_))
  rcases Bool.eq_false_or_eq_true (y1.k == 0) with h1 | h1
  ·
   have h1d := eq_of_beq h1
   refine sx_C 186 #[(.agg #[(I6 y1.k),(N6 y1.n),(St y1.s),(.slice a1 y1.l.length c1),(.bool y1.o)])] (.tuple #[(I6 ((min y1.n 65536 : Nat) : Int)),.nilIface]) (fun W hM => num_ok eA y1 _ _ W hM.view h1 (by obtain ⟨_,_,_,_,h9,_⟩ := (ht1).form; exact h9)) ?_
   refine zq 5 (zn (zs (zQ 1 (sx_R (.bool false) (run_if00 .neq false _ _ _ rfl (Or.inr ⟨rfl,rfl⟩) (by kernel_rfl) (by kernel_rfl)) ?_))))
   refine zn (sx_F (zk (zr (zq 2 (sx_NI 2 (fun b3 => ?_))))))
   refine sx_appE x.r x.xs x.i [(bK b0 [(I6 t.k),(N6 t.n),(St t.s),(Sl b1 f1 t.l.length cT),(.bool t.o)] 89),(bK b2 [(I6 y1.k),(N6 y1.n),(St y1.s),(.slice a1 y1.l.length c1),(.bool y1.o)] 89),(bK b3 [(I6 ((min y1.n 65536 : Nat) : Int))] 3)] 3 48 1 8 1 (by kernel_rfl) hxr.ok (.tmp 26) (.tmp 28) rfl (by kernel_rfl) b3 0 1 [(I6 ((min y1.n 65536 : Nat) : Int))] (by kernel_rfl) (fun W hM => rangeAt_own hM 2 b3 [(I6 ((min y1.n 65536 : Nat) : Int))] 3 (by kernel_rfl)) rfl (List.all_eq_true.1 (by kernel_rfl)) (by decide) (by unfold maxLen; omega) (by omega) (by kernel_rfl) (by kernel_rfl) (by kernel_rfl) (by kernel_rfl) (by kernel_rfl) (fun r4 hr4 => ?_)
   refine zq 1 (zn (zr (zq 1 (sx_E 30 (I6 (IntKind.i64.wrap (((x.i : Nat) : Int) + 1))) (I6 (((x.i : Nat) : Int) + 1)) i6v ?_))))
   refine zq 1 (zn ?_)
   refine ⟨⟨x.i + 1,r4,(x.xs ++ [(I6 ((min y1.n 65536 : Nat) : Int))]),x.L ++ [(((min y1.n 65536 : Nat) : Int),[(I6 ((min y1.n 65536 : Nat) : Int))])],x.V⟩,?_,?_,look_zip _ _ (by kernel_rfl),fun _ h => Mem.sub (List.Sublist.append (List.sublist_append_left _ _) (List.Sublist.refl _)) (h.eqv (show _ = ((([(bK b0 [(I6 t.k),(N6 t.n),(St t.s),(Sl b1 f1 t.l.length cT),(.bool t.o)] 89)] : Blks) ++ ([(bK b2 [(I6 y1.k),(N6 y1.n),(St y1.s),(.slice a1 y1.l.length c1),(.bool y1.o)] 89),(bK b3 [(I6 ((min y1.n 65536 : Nat) : Int))] 3)] : Blks)) ++ (r4.B 3 (x.xs ++ [(I6 ((min y1.n 65536 : Nat) : Int))]))) from by kernel_rfl))⟩
   · exact ⟨by show x.i + 1 ≤ _; omega,hxl,RwR.snoc hxr rfl hr4,by rw [List.map_append]; exact mapO_succ hxp hy1 (numR_some h1)⟩
   · show t.l.length - (x.i + 1) < t.l.length - x.i; omega
  ·
   have h1d := beq_eq_false_iff_ne.1 h1
   refine sx_C 186 #[(.agg #[(I6 y1.k),(N6 y1.n),(St y1.s),(.slice a1 y1.l.length c1),(.bool y1.o)])] (.tuple #[(I6 0),(Er.V eA (Er.wrap [110,117,109,98,101,114] .leaf))]) (fun W hM => num_no eA y1 _ _ W hM.view (hE.le hxl) h1) ?_
   refine zq 5 (zn (zs (zQ 1 (sx_R (.bool true) (run_er .neq true _ _ _ _ rfl (Or.inr ⟨rfl,rfl⟩) (by kernel_rfl) eA (Er.wrap [110,117,109,98,101,114] .leaf) (by kernel_rfl) (by kernel_rfl)) ?_))))
   refine zn (sx_T (zQ 5 (zn (sx_ret (sx_Z [2,3] [S0,(.iface 281 (.agg #[(St [116,97,114,103,101,116,115]),(Er.V eA (Er.wrap [110,117,109,98,101,114] .leaf))]))] (fun W' hM => ?_))))))
   have hno : numR y1 = none := numR_none h1
   have hz : tgtR t = none := mapO_none (List.mem_of_getElem? hy1) hno
   rw [hz]
   exact retN_of hM hxl ⟨(.wrap [116,97,114,103,101,116,115] (Er.wrap [110,117,109,98,101,114] .leaf)),rfl⟩
 ·
  have h0d := of_decide_eq_false h0
  refine sx_exit (zQ 3 (zn (sx_ret (sx_Z [2,3] [(x.r.V x.i),.nilIface] (fun W' hM => ?_)))))
  refine retN_rwR (by decide) (hM.eqv (show _ = ([(bK b0 [(I6 t.k),(N6 t.n),(St t.s),(.slice aT t.l.length cT),(.bool t.o)] 89)] : Blks) ++ x.r.B 3 x.xs from by kernel_rfl)) hxr hxl (fun v => .tuple #[v,.nilIface]) (by unfold R47; omega) fun a c V' hl' hA hc hm => ?_
  rw [List.take_of_length_le (by omega)] at hxp
  unfold tgtR
  rw [hxp,hm]
  exact ⟨a,c,rfl,hA,by omega⟩
set_option maxHeartbeats 16000000 in
theorem readPairs_any (eA : Addr) (t : Itm.Tr) (aT : Option Addr) (cT : Nat) (w : World) {U : View} (hU : ∀ a v, U a = some v → w.cell? a = some v) (hE : EF U eA) (hts : TsAt U aT t.l) (h47 : t.l.length ≤ 1000000) : Calls Tryz.prog 188 #[.agg #[.int .i64 t.k, .int .u64 t.n, .string (B t.s), .slice aT t.l.length cT, .bool t.o]] w (RetN w U (LRes PaR 6 eA (pairsR t))) := by
 refine sx_enter (f := 188) 45 U Tryz.func188 rfl rfl rfl hU ?_
 refine zs (zr (sx_N (fun b0 => (zq 2 (zn (zQ 1 (zn (zs (zB [0,1,0,0] [(b0,1)] (zn (sx_block ?_)))))))))))
 refine sx_loop (α := Gp Pa) (fun x => [2,3,4,10,11,12].zip [S0,.nilIface,(x.r.V x.i),(.slice aT t.l.length cT),(L6 t.l.length),(L6 x.i)]) (fun x => x.V) (fun x => ([(bK b0 [(I6 t.k),(N6 t.n),(St t.s),(.slice aT t.l.length cT),(.bool t.o)] 89)] ++ x.r.B 92 x.xs)) (fun x => x.i ≤ t.l.length ∧ View.le U x.V ∧ RwR PaR 6 x.V x.r x.xs x.i x.L ∧ mapO pairR (t.l.take x.i) = some (x.L.map Prod.fst)) (fun x => t.l.length - x.i) ⟨0,Rw.nil,[],[],U⟩ ?_ (look_zip _ _ (by kernel_rfl)) (fun _ h => h.eqv (Eq.trans (by kernel_rfl) (List.append_nil ([(bK b0 [(I6 t.k),(N6 t.n),(St t.s),(.slice aT t.l.length cT),(.bool t.o)] 89)] : Blks)).symm)) ?_
 · exact ⟨Nat.zero_le _,View.le_refl _,RwR.nil,rfl⟩
 intro x hx
 obtain ⟨hxi,hxl,hxr,hxp⟩ := hx
 refine zQ 1 (zn (zs (sx_D (decide (((x.i : Nat) : Int) < (((t.l.length : Nat)) : Int))) (fun h0 => ?_) (fun h0 => ?_))))
 ·
  have h0d := of_decide_eq_true h0
  refine zk (zs (sx_block (zs (zr ?_))))
  obtain ⟨y1,hy1⟩ : ∃ y,(t.l)[x.i]? = some y := ⟨(t.l)[x.i]'(by omega),List.getElem?_eq_getElem _⟩
  obtain ⟨b1,f1,cs1,rfl,hU1,ht1⟩ := (hts.le hxl).at_ x.i y1 hy1
  obtain ⟨a1,c1,rfl,hts1,hn1,hs1,hl1⟩ := ht1.form
  refine sx_R (Pt b1 (f1 + x.i * 5)) (rIx 89 rfl b1 f1 t.l.length cT x.i 5) ?_
  refine zU b1 (f1 + x.i * 5) [(I6 y1.k),(N6 y1.n),(St y1.s),(.slice a1 y1.l.length c1),(.bool y1.o)] hU1 89 (.tmp 14) _ Tryz.underlying89 rfl ?_
  refine sx_NI 1 (fun b2 => ?_)
  refine sx_S 1 b2 (zn (zs (zB [0,2,0,0] [(b2,1)] (zn (sx_D ((((y1.l.length : Nat)) : Int) != 2) (fun h1 => ?_) (fun h1 => ?_))))))
  ·
   have h1d := bne_iff_ne.1 h1
   refine zs (zr (sx_C 184 #[(St [112,97,105,114])] (Er.V eA (Er.wrap [112,97,105,114] .leaf)) (fun W hM => wrong_any eA [112,97,105,114] W hM.view (hE.le hxl)) ?_))
   refine zq 2 (zn (sx_ret (sx_Z [2,3] [S0,(Er.V eA (Er.wrap [112,97,105,114] .leaf))] (fun W' hM => ?_))))
   have hno : pairR y1 = none := pairR_not (by omega)
   have hz : pairsR t = none := mapO_none (List.mem_of_getElem? hy1) hno
   rw [hz]
   exact retN_of hM hxl ⟨(Er.wrap [112,97,105,114] .leaf),rfl⟩
  ·
   have h1d := bne_eq_false_iff_eq.1 h1
   refine zk (zB [0,2] [(b2,1)] ?_)
   obtain ⟨y3,hy3⟩ : ∃ y,(y1.l)[0]? = some y := ⟨(y1.l)[0]'(by omega),List.getElem?_eq_getElem _⟩
   obtain ⟨b3,f3,cs3,rfl,hU3,ht3⟩ := hts1.at_ 0 y3 hy3
   obtain ⟨a3,c3,rfl,hts3,hn3,hs3,hl3⟩ := ht3.form
   refine sx_R (Pt b3 (f3 + 0 * 5)) (rIx 89 rfl b3 f3 y1.l.length c1 0 5) ?_
   refine zU b3 (f3 + 0 * 5) [(I6 y3.k),(N6 y3.n),(St y3.s),(.slice a3 y3.l.length c3),(.bool y3.o)] hU3 89 (.tmp 24) _ Tryz.underlying89 rfl ?_
   rcases Bool.eq_false_or_eq_true (y3.k == 0) with h2 | h2
   ·
    have h2d := eq_of_beq h2
    refine sx_C 186 #[(.agg #[(I6 y3.k),(N6 y3.n),(St y3.s),(.slice a3 y3.l.length c3),(.bool y3.o)])] (.tuple #[(I6 ((min y3.n 65536 : Nat) : Int)),.nilIface]) (fun W hM => num_ok eA y3 _ _ W hM.view h2 (by obtain ⟨_,_,_,_,h9,_⟩ := (ht3).form; exact h9)) ?_
    refine zq 5 (zn (zs (zQ 1 (sx_R (.bool false) (run_if00 .neq false _ _ _ rfl (Or.inr ⟨rfl,rfl⟩) (by kernel_rfl) (by kernel_rfl)) ?_))))
    refine zn (sx_F (zk (zr (sx_B [0,0,0,2] [(b2,1)] ?_))))
    obtain ⟨y4,hy4⟩ : ∃ y,(y1.l)[1]? = some y := ⟨(y1.l)[1]'(by omega),List.getElem?_eq_getElem _⟩
    obtain ⟨b4,f4,cs4,e4,hU4,ht4⟩ := hts1.at_ 1 y4 hy4
    obtain ⟨a4,c4,rfl,hts4,hn4,hs4,hl4⟩ := ht4.form
    cases e4
    refine sx_R (Pt b3 (f3 + 1 * 5)) (rIx 89 rfl b3 f3 y1.l.length c1 1 5) ?_
    refine zU b3 (f3 + 1 * 5) [(I6 y4.k),(N6 y4.n),(St y4.s),(.slice a4 y4.l.length c4),(.bool y4.o)] hU4 89 (.tmp 38) _ Tryz.underlying89 rfl ?_
    refine zq 1 (sx_NI 2 (fun b5 => ?_))
    refine sx_appE x.r x.xs x.i [(bK b0 [(I6 t.k),(N6 t.n),(St t.s),(Sl b1 f1 t.l.length cT),(.bool t.o)] 89),(bK b2 [(I6 y1.k),(N6 y1.n),(St y1.s),(Sl b3 f3 y1.l.length c1),(.bool y1.o)] 89),(bK b5 [(I6 ((min y3.n 65536 : Nat) : Int)),(I6 y4.k),(N6 y4.n),(St y4.s),(.slice a4 y4.l.length c4),(.bool y4.o)] 92)] 92 93 6 72 1 (by kernel_rfl) hxr.ok (.tmp 34) (.tmp 41) rfl (by kernel_rfl) b5 0 1 [(I6 ((min y3.n 65536 : Nat) : Int)),(I6 y4.k),(N6 y4.n),(St y4.s),(.slice a4 y4.l.length c4),(.bool y4.o)] (by kernel_rfl) (fun W hM => rangeAt_own hM 2 b5 [(I6 ((min y3.n 65536 : Nat) : Int)),(I6 y4.k),(N6 y4.n),(St y4.s),(.slice a4 y4.l.length c4),(.bool y4.o)] 92 (by kernel_rfl)) rfl (List.all_eq_true.1 (by kernel_rfl)) (by decide) (by unfold maxLen; omega) (by omega) (by kernel_rfl) (by kernel_rfl) (by kernel_rfl) (by kernel_rfl) (by kernel_rfl) (fun r6 hr6 => ?_)
    refine zq 1 (zn (zr (zq 1 (sx_E 43 (I6 (IntKind.i64.wrap (((x.i : Nat) : Int) + 1))) (I6 (((x.i : Nat) : Int) + 1)) i6v ?_))))
    refine zq 1 (zn ?_)
    refine ⟨⟨x.i + 1,r6,(x.xs ++ [(I6 ((min y3.n 65536 : Nat) : Int)),(I6 y4.k),(N6 y4.n),(St y4.s),(.slice a4 y4.l.length c4),(.bool y4.o)]),x.L ++ [(⟨((min y3.n 65536 : Nat) : Int),y4⟩,[(I6 ((min y3.n 65536 : Nat) : Int)),(I6 y4.k),(N6 y4.n),(St y4.s),(.slice a4 y4.l.length c4),(.bool y4.o)])],x.V⟩,?_,?_,look_zip _ _ (by kernel_rfl),fun _ h => Mem.sub (List.Sublist.append (List.sublist_append_left _ _) (List.Sublist.refl _)) (h.eqv (show _ = ((([(bK b0 [(I6 t.k),(N6 t.n),(St t.s),(Sl b1 f1 t.l.length cT),(.bool t.o)] 89)] : Blks) ++ ([(bK b2 [(I6 y1.k),(N6 y1.n),(St y1.s),(Sl b3 f3 y1.l.length c1),(.bool y1.o)] 89),(bK b5 [(I6 ((min y3.n 65536 : Nat) : Int)),(I6 y4.k),(N6 y4.n),(St y4.s),(.slice a4 y4.l.length c4),(.bool y4.o)] 92)] : Blks)) ++ (r6.B 92 (x.xs ++ [(I6 ((min y3.n 65536 : Nat) : Int)),(I6 y4.k),(N6 y4.n),(St y4.s),(.slice a4 y4.l.length c4),(.bool y4.o)]))) from by kernel_rfl))⟩
    · exact ⟨by show x.i + 1 ≤ _; omega,hxl,RwR.snoc hxr ⟨_,rfl,ht4⟩ hr6,by rw [List.map_append]; exact mapO_succ hxp hy1 (by rw [pairR_two (by omega) hy3 hy4,numR_some h2])⟩
    · show t.l.length - (x.i + 1) < t.l.length - x.i; omega
   ·
    have h2d := beq_eq_false_iff_ne.1 h2
    refine sx_C 186 #[(.agg #[(I6 y3.k),(N6 y3.n),(St y3.s),(.slice a3 y3.l.length c3),(.bool y3.o)])] (.tuple #[(I6 0),(Er.V eA (Er.wrap [110,117,109,98,101,114] .leaf))]) (fun W hM => num_no eA y3 _ _ W hM.view (hE.le hxl) h2) ?_
    refine zq 5 (zn (zs (zQ 1 (sx_R (.bool true) (run_er .neq true _ _ _ _ rfl (Or.inr ⟨rfl,rfl⟩) (by kernel_rfl) eA (Er.wrap [110,117,109,98,101,114] .leaf) (by kernel_rfl) (by kernel_rfl)) ?_))))
    refine zn (sx_T (zQ 5 (zn (sx_ret (sx_Z [2,3] [S0,(.iface 281 (.agg #[(St [112,97,105,114]),(Er.V eA (Er.wrap [110,117,109,98,101,114] .leaf))]))] (fun W' hM => ?_))))))
    have hno : pairR y1 = none := (by obtain ⟨v9,hv9⟩ : ∃ v,y1.l[1]? = some v := ⟨_,List.getElem?_eq_getElem (by omega)⟩; rw [pairR_two (by omega) hy3 hv9,numR_none h2])
    have hz : pairsR t = none := mapO_none (List.mem_of_getElem? hy1) hno
    rw [hz]
    exact retN_of hM hxl ⟨(.wrap [112,97,105,114] (Er.wrap [110,117,109,98,101,114] .leaf)),rfl⟩
 ·
  have h0d := of_decide_eq_false h0
  refine sx_exit (zQ 3 (zn (sx_ret (sx_Z [2,3] [(x.r.V x.i),.nilIface] (fun W' hM => ?_)))))
  refine retN_rwR (by decide) (hM.eqv (show _ = ([(bK b0 [(I6 t.k),(N6 t.n),(St t.s),(.slice aT t.l.length cT),(.bool t.o)] 89)] : Blks) ++ x.r.B 92 x.xs from by kernel_rfl)) hxr hxl (fun v => .tuple #[v,.nilIface]) (by unfold R47; omega) fun a c V' hl' hA hc hm => ?_
  rw [List.take_of_length_le (by omega)] at hxp
  unfold pairsR
  rw [hxp,hm]
  exact ⟨a,c,rfl,hA,by omega⟩
set_option maxHeartbeats 16000000 in
theorem readResults_any (eA : Addr) (t : Itm.Tr) (aT : Option Addr) (cT : Nat) (w : World) {U : View} (hU : ∀ a v, U a = some v → w.cell? a = some v) (hE : EF U eA) (hts : TsAt U aT t.l) (h47 : t.l.length ≤ 1000000) (hsm : ∀ y ∈ t.l, y.l.length ≤ 1000000) : Calls Tryz.prog 189 #[.agg #[.int .i64 t.k, .int .u64 t.n, .string (B t.s), .slice aT t.l.length cT, .bool t.o]] w (RetN w U (LRes RlR 1 eA (resR t))) := by
 refine sx_enter (f := 189) 32 U Tryz.func189 rfl rfl rfl hU ?_
 refine zs (zr (sx_N (fun b0 => (zq 2 (zn (zQ 1 (zn (zs (zB [0,1,0,0] [(b0,1)] (zn (sx_block ?_)))))))))))
 refine sx_loop (α := Gp (List Pa)) (fun x => [2,3,4,10,11,12].zip [S0,.nilIface,(x.r.V x.i),(.slice aT t.l.length cT),(L6 t.l.length),(L6 x.i)]) (fun x => x.V) (fun x => ([(bK b0 [(I6 t.k),(N6 t.n),(St t.s),(.slice aT t.l.length cT),(.bool t.o)] 89)] ++ x.r.B 93 x.xs)) (fun x => x.i ≤ t.l.length ∧ View.le U x.V ∧ RwR RlR 1 x.V x.r x.xs x.i x.L ∧ mapO pairsR (t.l.take x.i) = some (x.L.map Prod.fst)) (fun x => t.l.length - x.i) ⟨0,Rw.nil,[],[],U⟩ ?_ (look_zip _ _ (by kernel_rfl)) (fun _ h => h.eqv (Eq.trans (by kernel_rfl) (List.append_nil ([(bK b0 [(I6 t.k),(N6 t.n),(St t.s),(.slice aT t.l.length cT),(.bool t.o)] 89)] : Blks)).symm)) ?_
 · exact ⟨Nat.zero_le _,View.le_refl _,RwR.nil,rfl⟩
 intro x hx
 obtain ⟨hxi,hxl,hxr,hxp⟩ := hx
 refine zQ 1 (zn (zs (sx_D (decide (((x.i : Nat) : Int) < (((t.l.length : Nat)) : Int))) (fun h0 => ?_) (fun h0 => ?_))))
 ·
  have h0d := of_decide_eq_true h0
  refine zk (zs (sx_block (zs (zr ?_))))
  obtain ⟨y1,hy1⟩ : ∃ y,(t.l)[x.i]? = some y := ⟨(t.l)[x.i]'(by omega),List.getElem?_eq_getElem _⟩
  obtain ⟨b1,f1,cs1,rfl,hU1,ht1⟩ := (hts.le hxl).at_ x.i y1 hy1
  obtain ⟨a1,c1,rfl,hts1,hn1,hs1,hl1⟩ := ht1.form
  refine sx_R (Pt b1 (f1 + x.i * 5)) (rIx 89 rfl b1 f1 t.l.length cT x.i 5) ?_
  refine zU b1 (f1 + x.i * 5) [(I6 y1.k),(N6 y1.n),(St y1.s),(.slice a1 y1.l.length c1),(.bool y1.o)] hU1 89 (.tmp 14) _ Tryz.underlying89 rfl ?_
  refine sx_NI 1 (fun b2 => ?_)
  refine sx_S 1 b2 (zn (zB [2] [(b2,5)] ?_))
  rcases Bool.eq_false_or_eq_true ((pairsR y1).isSome) with h1 | h1
  ·
   refine sx_O 188 #[(.agg #[(I6 y1.k),(N6 y1.n),(St y1.s),(.slice a1 y1.l.length c1),(.bool y1.o)])] (LRes PaR 6 eA (pairsR y1)) (fun W hM => readPairs_any eA y1 _ _ W hM.view (hE.le hxl) hts1 (hsm y1 (List.mem_of_getElem? hy1))) (fun v3 V3 hV3 hP3 => ?_)
   have k7 := hxr.le hV3
   obtain ⟨l3,a3,c3,hq3,rfl,hls3,hc3⟩ := (hP3).some h1
   refine zq 5 (zn (zs (zQ 1 (sx_R (.bool false) (run_if00 .neq false _ _ _ rfl (Or.inr ⟨rfl,rfl⟩) (by kernel_rfl) (by kernel_rfl)) ?_))))
   refine zn (sx_F (zk (zr (zq 2 (sx_NI 2 (fun b8 => ?_))))))
   refine sx_appE x.r x.xs x.i [(bK b0 [(I6 t.k),(N6 t.n),(St t.s),(Sl b1 f1 t.l.length cT),(.bool t.o)] 89),(bK b2 [(I6 y1.k),(N6 y1.n),(St y1.s),(.slice a1 y1.l.length c1),(.bool y1.o)] 89),(bK b8 [(.slice a3 l3.length c3)] 93)] 93 94 1 24 1 (by kernel_rfl) hxr.ok (.tmp 26) (.tmp 28) rfl (by kernel_rfl) b8 0 1 [(.slice a3 l3.length c3)] (by kernel_rfl) (fun W hM => rangeAt_own hM 2 b8 [(.slice a3 l3.length c3)] 93 (by kernel_rfl)) rfl (List.all_eq_true.1 (by kernel_rfl)) (by decide) (by unfold maxLen; omega) (by omega) (by kernel_rfl) (by kernel_rfl) (by kernel_rfl) (by kernel_rfl) (by kernel_rfl) (fun r9 hr9 => ?_)
   refine zq 1 (zn (zr (zq 1 (sx_E 30 (I6 (IntKind.i64.wrap (((x.i : Nat) : Int) + 1))) (I6 (((x.i : Nat) : Int) + 1)) i6v ?_))))
   refine zq 1 (zn ?_)
   refine ⟨⟨x.i + 1,r9,(x.xs ++ [(.slice a3 l3.length c3)]),x.L ++ [(l3,[(.slice a3 l3.length c3)])],V3⟩,?_,?_,look_zip _ _ (by kernel_rfl),fun _ h => Mem.sub (List.Sublist.append (List.sublist_append_left _ _) (List.Sublist.refl _)) (h.eqv (show _ = ((([(bK b0 [(I6 t.k),(N6 t.n),(St t.s),(Sl b1 f1 t.l.length cT),(.bool t.o)] 89)] : Blks) ++ ([(bK b2 [(I6 y1.k),(N6 y1.n),(St y1.s),(.slice a1 y1.l.length c1),(.bool y1.o)] 89),(bK b8 [(.slice a3 l3.length c3)] 93)] : Blks)) ++ (r9.B 93 (x.xs ++ [(.slice a3 l3.length c3)]))) from by kernel_rfl))⟩
   · exact ⟨by show x.i + 1 ≤ _; omega,(View.le_trans hxl hV3),RwR.snoc k7 ⟨_,_,rfl,hls3⟩ hr9,by rw [List.map_append]; exact mapO_succ hxp hy1 hq3⟩
   · show t.l.length - (x.i + 1) < t.l.length - x.i; omega
  ·
   refine sx_O 188 #[(.agg #[(I6 y1.k),(N6 y1.n),(St y1.s),(.slice a1 y1.l.length c1),(.bool y1.o)])] (LRes PaR 6 eA (pairsR y1)) (fun W hM => readPairs_any eA y1 _ _ W hM.view (hE.le hxl) hts1 (hsm y1 (List.mem_of_getElem? hy1))) (fun v10 V10 hV10 hP10 => ?_)
   obtain ⟨hq10,e10,rfl⟩ := (hP10).none h1
   refine zq 5 (zn (zs (zQ 1 (sx_R (.bool true) (run_er .neq true _ _ _ _ rfl (Or.inr ⟨rfl,rfl⟩) (by kernel_rfl) eA e10 (by kernel_rfl) (by kernel_rfl)) ?_))))
   refine zn (sx_T (zQ 1 ?_))
   obtain ⟨ue15,ve15,he15⟩ := Er.form eA e10
   rw [he15]
   refine zq 1 (zq 3 (zn (sx_ret (sx_Z [2,3] [S0,(.iface 281 (.agg #[(St [114,101,115,117,108,116,115]),(.iface ue15 ve15)]))] (fun W' hM => ?_)))))
   have hno : pairsR y1 = none := hq10
   have hz : resR t = none := mapO_none (List.mem_of_getElem? hy1) hno
   rw [hz]
   exact retN_of hM (View.le_trans hxl hV10) ⟨(.wrap [114,101,115,117,108,116,115] e10),(by rw [show (Er.wrap [114,101,115,117,108,116,115] e10).V eA = .iface 281 (.agg #[.string (B [114,101,115,117,108,116,115]),Er.V eA e10]) from rfl,he15]; try rfl)⟩
 ·
  have h0d := of_decide_eq_false h0
  refine sx_exit (zQ 3 (zn (sx_ret (sx_Z [2,3] [(x.r.V x.i),.nilIface] (fun W' hM => ?_)))))
  refine retN_rwR (by decide) (hM.eqv (show _ = ([(bK b0 [(I6 t.k),(N6 t.n),(St t.s),(.slice aT t.l.length cT),(.bool t.o)] 89)] : Blks) ++ x.r.B 93 x.xs from by kernel_rfl)) hxr hxl (fun v => .tuple #[v,.nilIface]) (by unfold R47; omega) fun a c V' hl' hA hc hm => ?_
  rw [List.take_of_length_le (by omega)] at hxp
  unfold resR
  rw [hxp,hm]
  exact ⟨a,c,rfl,hA,by omega⟩
theorem list5 {α : Type} {l : List α} (h : l.length = 5) {t c s r : α} (h0 : l[0]? = some t) (h1 : l[1]? = some c) (h3 : l[3]? = some s) (h4 : l[4]? = some r) : ∃ z, l = [t, c, z, s, r] := by
 match l, h with
 | [a, b, z, d, e], _ =>
  simp only [List.getElem?_cons_zero, List.getElem?_cons_succ, Option.some.injEq] at h0 h1 h3 h4
  subst h0 h1 h3 h4
  exact ⟨z, rfl⟩
theorem list6 {α : Type} {l : List α} (h : l.length = 6) {t c s p r : α} (h0 : l[0]? = some t) (h1 : l[1]? = some c) (h3 : l[3]? = some s) (h4 : l[4]? = some p) (h5 : l[5]? = some r) : ∃ z, l = [t, c, z, s, p, r] := by
 match l, h with
 | [a, b, z, d, e, g], _ =>
  simp only [List.getElem?_cons_zero, List.getElem?_cons_succ, Option.some.injEq] at h0 h1 h3 h4 h5
  subst h0 h1 h3 h4 h5
  exact ⟨z, rfl⟩
theorem get_some {α : Type} {l : List α} {i : Nat} (h : i < l.length) : ∃ y, l[i]? = some y := ⟨_, List.getElem?_eq_getElem h⟩
theorem asR_len {l : List Itm.Tr} (h : ¬ (l.length = 5 ∨ l.length = 6)) : asR l = none := by
 unfold asR
 rw [if_neg h]
theorem asR_t {l : List Itm.Tr} {t : Itm.Tr} (h0 : l[0]? = some t) (h : tgtR t = none) : asR l = none := by
 unfold asR
 split
 ·
  match l with
  | [] => rfl
  | [_] => rfl
  | a :: b :: l =>
   simp only [List.getElem?_cons_zero, Option.some.injEq] at h0
   subst h0
   simp only [h]
 · rfl
theorem asR_c {l : List Itm.Tr} {c : Itm.Tr} (h0 : l[1]? = some c) (h : numR c = none) : asR l = none := by
 unfold asR
 split
 ·
  match l with
  | [] => rfl
  | [_] => rfl
  | a :: b :: l =>
   simp only [List.getElem?_cons_zero, List.getElem?_cons_succ, Option.some.injEq] at h0
   subst h0
   simp only [h]
   cases tgtR a <;> rfl
 · rfl
theorem asR_s {l : List Itm.Tr} {s : Itm.Tr} (h0 : l[3]? = some s) (h : ofE s = none) : asR l = none := by
 unfold asR
 split
 ·
  match l with
  | [] => rfl
  | [_] => rfl
  | [_, _] => simp at h0
  | [_, _, _] => simp at h0
  | a :: b :: c :: d :: l =>
   simp only [List.getElem?_cons_zero, List.getElem?_cons_succ, Option.some.injEq] at h0
   subst h0
   simp only [asR1, h]
   cases tgtR a with
   | none => rfl
   | some t => cases numR b <;> rfl
 · rfl
theorem asR_5 {l : List Itm.Tr} (hl : l.length = 5) {t c s r : Itm.Tr} (h0 : l[0]? = some t) (h1 : l[1]? = some c) (h3 : l[3]? = some s) (h4 : l[4]? = some r) {t' : List Int} {c' : Int} {s' : Ei} (ht : tgtR t = some t') (hc : numR c = some c') (hs : ofE s = some s') : asR l = asR3 t' c' s' [] r := by
 obtain ⟨z, rfl⟩ := list5 hl h0 h1 h3 h4
 unfold asR
 rw [if_pos (.inl hl)]
 simp only [ht, hc, asR1, hs, asR2]
theorem asR_6 {l : List Itm.Tr} (hl : l.length = 6) {t c s p r : Itm.Tr} (h0 : l[0]? = some t) (h1 : l[1]? = some c) (h3 : l[3]? = some s) (h4 : l[4]? = some p) (h5 : l[5]? = some r) {t' : List Int} {c' : Int} {s' : Ei} (ht : tgtR t = some t') (hc : numR c = some c') (hs : ofE s = some s') : asR l = match pairsR p with
  | none => none
  | some p' => asR3 t' c' s' p' r := by
 obtain ⟨z, rfl⟩ := list6 hl h0 h1 h3 h4 h5
 unfold asR
 rw [if_pos (.inr hl)]
 simp only [ht, hc, asR1, hs, asR2]
 all_goals (cases pairsR p <;> rfl)
theorem eOf_some {t : Itm.Tr} {e : Ei} (h : ofE t = some e) (cs : List Value) (w : World) {U : View} (hU : ∀ a v, U a = some v → w.cell? a = some v) (ht : TV U t cs) : Calls Tryz.prog 187 #[.agg cs.toArray] w (Ret (.tuple #[e.V, .int .i64 0]) w) := by
 unfold ofE at h
 split at h
 ·
  next hp =>
  obtain rfl := Option.some.inj h
  refine (Itm.Of_any t cs w (ht.toTAt hU)).mono ?_
  rintro E w' ⟨⟨m, k, he, hk⟩, hb⟩
  refine ⟨?_, hb⟩
  rcases hk with ⟨rfl, _, rfl⟩ | ⟨_, _, hn⟩
  · exact he
  · exact absurd hp hn
 · cases h
theorem eOf_none {t : Itm.Tr} (h : ofE t = none) (cs : List Value) (w : World) {U : View} (hU : ∀ a v, U a = some v → w.cell? a = some v) (ht : TV U t cs) : Calls Tryz.prog 187 #[.agg cs.toArray] w (Ret (.tuple #[(⟨0, [], 0, 0⟩ : Ei).V, .int .i64 2]) w) := by
 unfold ofE at h
 split at h
 · cases h
 ·
  next hp =>
  refine (Itm.Of_any t cs w (ht.toTAt hU)).mono ?_
  rintro E w' ⟨⟨m, k, he, hk⟩, hb⟩
  refine ⟨?_, hb⟩
  rcases hk with ⟨_, ho, rfl⟩ | ⟨rfl, rfl, _⟩
  · exact absurd ho hp
  · exact he
theorem ofE_ok {t : Itm.Tr} {e : Ei} (h : ofE t = some e) {U : View} {cs : List Value} {w : World} (hU : ∀ a v, U a = some v → w.cell? a = some v) (ht : TV U t cs) : e.ok := by
 unfold ofE at h
 split at h
 ·
  obtain rfl := Option.some.inj h
  obtain ⟨h1, h2, h3⟩ := Itm.readT_bound (ht.toTAt hU)
  exact ⟨h1, h2, h3⟩
 · cases h
def AsRes (eA : Addr) (x : Option As) (v : Value) (V : View) : Prop := match x with
 | some a => ∃ a1 a2 a3 c1 c2 c3, v = .tuple #[asV a a1 a2 a3 c1 c2 c3, .nilIface] ∧ AsAt V a1 a2 a3 a ∧ a.t.length ≤ c1
 | none => ∃ (a1 : Option Addr) (n1 c1 : Nat) (k s : Int) (l : List UInt8) (n m : Nat) (a2 : Option Addr) (n2 c2 : Nat) (a3 : Option Addr) (n3 c3 : Nat) (e : Er), v = .tuple #[.agg #[.slice a1 n1 c1, .int .i64 k, .int .i64 s, .string (B l), .int .u64 n, .int .u64 m, .slice a2 n2 c2, .slice a3 n3 c3], e.V eA]
theorem closedF_mem {f : List UInt8 → Option (Itm.Tr × Nat)} : ∀ {n : Nat} {s : List UInt8} {l : List Itm.Tr} {k : Nat}, closedF f n s = some (l, k) → ∀ x ∈ l, ∃ s' k', f s' = some (x, k')
 | 0, s, l, k, h, x, hx => by
  rw [closedF] at h
  simp only [Option.some.injEq, Prod.mk.injEq] at h
  rw [← h.1] at hx
  cases hx
 | n + 1, s, l, k, h, x, hx => by
  rw [closedF] at h
  split at h
  · cases h
  ·
   next t k1 h1 =>
   split at h
   · cases h
   ·
    next ts j h2 =>
    simp only [Option.some.injEq, Prod.mk.injEq] at h
    rw [← h.1] at hx
    rcases List.mem_cons.1 hx with rfl | hx
    · exact ⟨s, k1, h1⟩
    · exact closedF_mem h2 x hx
theorem openF_mem {f : List UInt8 → Option (Itm.Tr × Nat)} : ∀ {n : Nat} {s : List UInt8} {l : List Itm.Tr} {k : Nat}, openF f n s = some (l, k) → ∀ x ∈ l, ∃ s' k', f s' = some (x, k')
 | 0, s, l, k, h, x, hx => by
  rw [openF] at h
  split at h
  ·
   simp only [Option.some.injEq, Prod.mk.injEq] at h
   rw [← h.1] at hx
   cases hx
  · cases h
 | n + 1, s, l, k, h, x, hx => by
  rw [openF] at h
  split at h
  ·
   simp only [Option.some.injEq, Prod.mk.injEq] at h
   rw [← h.1] at hx
   cases hx
  ·
   split at h
   · cases h
   ·
    next t k1 h1 =>
    split at h
    · cases h
    ·
     next ts j h2 =>
     simp only [Option.some.injEq, Prod.mk.injEq] at h
     rw [← h.1] at hx
     rcases List.mem_cons.1 hx with rfl | hx
     · exact ⟨s, k1, h1⟩
     · exact openF_mem h2 x hx
theorem itF_wide {d : Nat} {s : List UInt8} {t : Itm.Tr} {k : Nat} (h : itF (d + 1) s = some (t, k)) : t.l.length ≤ 1000 ∧ ∀ x ∈ t.l, ∃ s' k', itF d s' = some (x, k') := by
 rw [itF] at h
 split at h
 · cases h
 ·
  next m n o z hx =>
  split at h
  ·
   simp only [Option.some.injEq, Prod.mk.injEq] at h
   rw [← h.1]
   exact ⟨Nat.zero_le _, fun x hx => by cases hx⟩
  ·
   split at h
   ·
    unfold strT2 at h
    split at h
    ·
     simp only [Option.some.injEq, Prod.mk.injEq] at h
     rw [← h.1]
     exact ⟨Nat.zero_le _, fun x hx => by cases hx⟩
    · cases h
   ·
    split at h
    ·
     unfold strT2 at h
     split at h
     ·
      simp only [Option.some.injEq, Prod.mk.injEq] at h
      rw [← h.1]
      exact ⟨Nat.zero_le _, fun x hx => by cases hx⟩
     · cases h
    ·
     split at h
     ·
      split at h
      ·
       cases hq : openF (itF d) 1000 (s.drop z) with
       | none => rw [hq] at h; cases h
       | some q =>
        obtain ⟨l, j⟩ := q
        rw [hq] at h
        simp only [arrT2, Option.some.injEq, Prod.mk.injEq] at h
        rw [← h.1]
        exact ⟨(openF_len (itF_len d) _ _ _ _ hq).2, openF_mem hq⟩
      ·
       split at h
       ·
        cases hq : closedF (itF d) n (s.drop z) with
        | none => rw [hq] at h; cases h
        | some q =>
         obtain ⟨l, j⟩ := q
         rw [hq] at h
         simp only [arrT2, Option.some.injEq, Prod.mk.injEq] at h
         rw [← h.1]
         have := (closedF_len (itF_len d) _ _ _ _ hq).2
         exact ⟨by show l.length ≤ 1000; omega, closedF_mem hq⟩
       · cases h
     · cases h
def Wide (l : List Itm.Tr) : Prop := ∀ x ∈ l, x.l.length ≤ 1000000 ∧ ∀ y ∈ x.l, y.l.length ≤ 1000000
theorem itF_wide2 {d : Nat} {s : List UInt8} {t : Itm.Tr} {k : Nat} (h : itF (d + 3) s = some (t, k)) : Wide t.l := fun x hx => by
 obtain ⟨s1, k1, h1⟩ := (itF_wide h).2 x hx
 have h2 := itF_wide h1
 refine ⟨by omega, fun y hy => ?_⟩
 obtain ⟨s2, k2, h3⟩ := h2.2 y hy
 have h4 := (itF_wide h3).1
 omega
set_option maxHeartbeats 16000000 in
theorem read_any (eA : Addr) (l : List Itm.Tr) (aL : Option Addr) (cL : Nat) (w : World) {U : View} (hU : ∀ a v, U a = some v → w.cell? a = some v) (hE : EF U eA) (hl : TsAt U aL l) (hwd : Wide l) : Calls Tryz.prog 139 #[.slice aL l.length cL] w (RetN w U (AsRes eA (asR l))) := by
 have hlen := hl.len
 unfold R47 at hlen
 refine sx_enter (f := 139) 81 U Tryz.func139 rfl rfl rfl hU ?_
 refine zs (zr (sx_N (fun b0 => (zq 1 (zn (zs (zQ 4 (sx_BL 9 ((((l.length : Nat)) : Int) != 5) (fun h0 => ?_) (fun h0 => ?_)))))))))
 ·
  have h0d := bne_iff_ne.1 h0
  refine zq 4 (zn (sx_D ((((l.length : Nat)) : Int) != 6) (fun h1 => ?_) (fun h1 => ?_)))
  ·
   have h1d := bne_iff_ne.1 h1
   refine zs (sx_W 2 2 0 [14,15] [.val (.agg #[S0,(I6 0),(I6 0),(St []),(U6 0),(U6 0),S0,S0]),.val (Er.V eA (Er.wrap [105,116,101,109,115] .leaf))] ⟨?_,?_,trivial⟩ ?_)
   · exact oL 0 0 b0 8 [S0,(I6 0),(I6 0),(St []),(U6 0),(U6 0),S0,S0] 96 rfl (.agg #[S0,(I6 0),(I6 0),(St []),(U6 0),(U6 0),S0,S0]) rfl
   · exact obC 1 184 #[(St [105,116,101,109,115])] rfl (Er.V eA (Er.wrap [105,116,101,109,115] .leaf)) rfl (by kernel_rfl) (fun W hM => wrong_any eA [105,116,101,109,115] W hM.view hE) (by kernel_rfl)
   refine sx_S 0 b0 (zq 1 (zn (sx_ret ?_)))
   refine sx_ret_any [.cell 2 96,.tmp 3] [(.agg #[S0,(I6 0),(I6 0),(St []),(U6 0),(U6 0),S0,S0]),(Er.V eA (Er.wrap [105,116,101,109,115] .leaf))] rfl ⟨(retK' 0 b0 8),retT',trivial⟩ (fun W' hM => ?_)
   have hz : asR l = none := asR_len (by omega)
   rw [hz]
   exact retN_of hM (View.le_refl _) ⟨_,_,_,_,_,_,_,_,_,_,_,_,_,_,(Er.wrap [105,116,101,109,115] .leaf),rfl⟩
  ·
   have h1d := bne_eq_false_iff_eq.1 h1
   refine zk (zs (zQ 1 ?_))
   obtain ⟨y1,hy1⟩ : ∃ y,(l)[0]? = some y := ⟨(l)[0]'(by omega),List.getElem?_eq_getElem _⟩
   obtain ⟨b1,f1,cs1,rfl,hU1,ht1⟩ := hl.at_ 0 y1 hy1
   obtain ⟨a1,c1,rfl,hts1,hn1,hs1,hl1⟩ := ht1.form
   refine sx_R (Pt b1 (f1 + 0 * 5)) (rIx 89 rfl b1 f1 l.length cL 0 5) ?_
   refine zU b1 (f1 + 0 * 5) [(I6 y1.k),(N6 y1.n),(St y1.s),(.slice a1 y1.l.length c1),(.bool y1.o)] hU1 89 (.tmp 18) _ Tryz.underlying89 rfl ?_
   rcases Bool.eq_false_or_eq_true ((tgtR y1).isSome) with h2 | h2
   ·
    refine sx_O 185 #[(.agg #[(I6 y1.k),(N6 y1.n),(St y1.s),(.slice a1 y1.l.length c1),(.bool y1.o)])] (LRes InR 1 eA (tgtR y1)) (fun W hM => readTargets_any eA y1 _ _ W hM.view hE hts1 (hwd y1 (List.mem_of_getElem? hy1)).1) (fun v2 V2 hV2 hP2 => ?_)
    have k3 := hl.le hV2
    obtain ⟨l2,a2,c2,hq2,rfl,hls2,hc2⟩ := (hP2).some h2
    have hin2 := hls2.ins
    refine zq 4 (sx_S 0 b0 (zq 1 (zn (zQ 1 (sx_R (.bool false) (run_if00 .neq false _ _ _ rfl (Or.inr ⟨rfl,rfl⟩) (by kernel_rfl) (by kernel_rfl)) ?_)))))
    refine zn (sx_F (zk (zs (zQ 1 ?_))))
    obtain ⟨y6,hy6⟩ : ∃ y,(l)[1]? = some y := ⟨(l)[1]'(by omega),List.getElem?_eq_getElem _⟩
    obtain ⟨b6,f6,cs6,e6,hU6,ht6⟩ := k3.at_ 1 y6 hy6
    obtain ⟨a6,c6,rfl,hts6,hn6,hs6,hl6⟩ := ht6.form
    cases e6
    refine sx_R (Pt b1 (f1 + 1 * 5)) (rIx 89 rfl b1 f1 l.length cL 1 5) ?_
    refine zU b1 (f1 + 1 * 5) [(I6 y6.k),(N6 y6.n),(St y6.s),(.slice a6 y6.l.length c6),(.bool y6.o)] hU6 89 (.tmp 30) _ Tryz.underlying89 rfl ?_
    rcases Bool.eq_false_or_eq_true (y6.k == 0) with h3 | h3
    ·
     have h3d := eq_of_beq h3
     refine sx_C 186 #[(.agg #[(I6 y6.k),(N6 y6.n),(St y6.s),(.slice a6 y6.l.length c6),(.bool y6.o)])] (.tuple #[(I6 ((min y6.n 65536 : Nat) : Int)),.nilIface]) (fun W hM => num_ok eA y6 _ _ W hM.view h3 (by obtain ⟨_,_,_,_,h9,_⟩ := (ht6).form; exact h9)) ?_
     refine zq 4 (sx_S 0 b0 (zq 1 (zn (zQ 1 (sx_R (.bool false) (run_if00 .neq false _ _ _ rfl (Or.inr ⟨rfl,rfl⟩) (by kernel_rfl) (by kernel_rfl)) ?_)))))
     refine zn (sx_F (zk (zQ 1 ?_)))
     obtain ⟨y7,hy7⟩ : ∃ y,(l)[3]? = some y := ⟨(l)[3]'(by omega),List.getElem?_eq_getElem _⟩
     obtain ⟨b7,f7,cs7,e7,hU7,ht7⟩ := k3.at_ 3 y7 hy7
     obtain ⟨a7,c7,rfl,hts7,hn7,hs7,hl7⟩ := ht7.form
     cases e7
     refine sx_R (Pt b1 (f1 + 3 * 5)) (rIx 89 rfl b1 f1 l.length cL 3 5) ?_
     refine zU b1 (f1 + 3 * 5) [(I6 y7.k),(N6 y7.n),(St y7.s),(.slice a7 y7.l.length c7),(.bool y7.o)] hU7 89 (.tmp 42) _ Tryz.underlying89 rfl ?_
     rcases Bool.eq_false_or_eq_true ((ofE y7).isSome) with h4 | h4
     ·
      obtain ⟨e8,hq8⟩ := Option.isSome_iff_exists.1 h4
      refine sx_C 187 #[(.agg #[(I6 y7.k),(N6 y7.n),(St y7.s),(.slice a7 y7.l.length c7),(.bool y7.o)])] (.tuple #[(.agg #[(I6 e8.s),(St e8.l),(N6 e8.n),(N6 e8.v)]),(I6 0)]) (fun W hM => eOf_some hq8 _ W hM.view ht7) ?_
      refine zq 3 (sx_N (fun b9 => (sx_S 1 b9 (zq 1 (zn (zs (zQ 2 (zn (sx_F (zk (zB [2,0] [(b9,4)] (sx_S 0 b0 (zn (zs (zQ 3 (zn (sx_T' ((((l.length : Nat)) : Int) == 6) (beq_iff_eq.2 (by omega)) ?_)))))))))))))))))
      refine zQ 1 ?_
      obtain ⟨y10,hy10⟩ : ∃ y,(l)[4]? = some y := ⟨(l)[4]'(by omega),List.getElem?_eq_getElem _⟩
      obtain ⟨b10,f10,cs10,e10,hU10,ht10⟩ := k3.at_ 4 y10 hy10
      obtain ⟨a10,c10,rfl,hts10,hn10,hs10,hl10⟩ := ht10.form
      cases e10
      refine sx_R (Pt b1 (f1 + 4 * 5)) (rIx 89 rfl b1 f1 l.length cL 4 5) ?_
      refine zU b1 (f1 + 4 * 5) [(I6 y10.k),(N6 y10.n),(St y10.s),(.slice a10 y10.l.length c10),(.bool y10.o)] hU10 89 (.tmp 58) _ Tryz.underlying89 rfl ?_
      rcases Bool.eq_false_or_eq_true ((pairsR y10).isSome) with h5 | h5
      ·
       refine sx_O 188 #[(.agg #[(I6 y10.k),(N6 y10.n),(St y10.s),(.slice a10 y10.l.length c10),(.bool y10.o)])] (LRes PaR 6 eA (pairsR y10)) (fun W hM => readPairs_any eA y10 _ _ W hM.view (hE.le hV2) hts10 (hwd y10 (List.mem_of_getElem? hy10)).1) (fun v11 V11 hV11 hP11 => ?_)
       have k12 := k3.le hV11
       have k14 := hin2.le hV11
       have k17 := ht7.le hV11
       obtain ⟨l11,a11,c11,hq11,rfl,hls11,hc11⟩ := (hP11).some h5
       refine zq 4 (sx_S 0 b0 (zq 1 (zn (zQ 1 (sx_R (.bool false) (run_if00 .neq false _ _ _ rfl (Or.inr ⟨rfl,rfl⟩) (by kernel_rfl) (by kernel_rfl)) ?_)))))
       refine zn (sx_F (zk (zQ 4 (sx_E 72 (I6 (IntKind.i64.wrap ((((l.length : Nat)) : Int) - 1))) (I6 ((l.length - 1 : Nat) : Int)) (congrArg (Value.int .i64) (by rw [IntWalk.i64_in _ (by omega)]; omega)) ?_))))
       obtain ⟨y22,hy22⟩ : ∃ y,(l)[(l.length - 1)]? = some y := ⟨(l)[(l.length - 1)]'(by omega),List.getElem?_eq_getElem _⟩
       obtain ⟨b22,f22,cs22,e22,hU22,ht22⟩ := k12.at_ (l.length - 1) y22 hy22
       obtain ⟨a22,c22,rfl,hts22,hn22,hs22,hl22⟩ := ht22.form
       cases e22
       refine sx_R (.pointer (some ⟨b1,f1 + (l.length - 1) * 5,none⟩)) (rIx 89 rfl b1 f1 l.length cL (l.length - 1) 5) ?_
       refine zU b1 (f1 + (l.length - 1) * 5) [(I6 y22.k),(N6 y22.n),(St y22.s),(.slice a22 y22.l.length c22),(.bool y22.o)] hU22 89 (.tmp 73) _ Tryz.underlying89 rfl ?_
       rcases Bool.eq_false_or_eq_true ((resR y22).isSome) with h6 | h6
       ·
        refine sx_O 189 #[(.agg #[(I6 y22.k),(N6 y22.n),(St y22.s),(.slice a22 y22.l.length c22),(.bool y22.o)])] (LRes RlR 1 eA (resR y22)) (fun W hM => readResults_any eA y22 _ _ W hM.view (hE.le (View.le_trans hV2 hV11)) hts22 (hwd y22 (List.mem_of_getElem? hy22)).1 (hwd y22 (List.mem_of_getElem? hy22)).2) (fun v23 V23 hV23 hP23 => ?_)
        have k26 := k14.le hV23
        have k27 := hls11.le hV23
        have k30 := k17.le hV23
        obtain ⟨l23,a23,c23,hq23,rfl,hls23,hc23⟩ := (hP23).some h6
        refine zq 4 (sx_S 0 b0 (zq 1 (zn (zB [1,0] [(b0,8)] (sx_S 0 b0 (zq 1 (zn (sx_ret ?_))))))))
        refine sx_ret_any [.cell 2 96,.tmp 3] [(.agg #[(.slice a2 l2.length c2),(I6 ((min y6.n 65536 : Nat) : Int)),(I6 e8.s),(St e8.l),(N6 e8.n),(N6 e8.v),(.slice a11 l11.length c11),(.slice a23 l23.length c23)]),.nilIface] rfl ⟨(retK' 0 b0 8),retT',trivial⟩ (fun W' hM => ?_)
        have hz : asR l = some ⟨l2,((min y6.n 65536 : Nat) : Int),e8,l11,l23⟩ := by rw [asR_6 (by omega) hy1 hy6 hy7 hy10 (by rw [show 5 = l.length - 1 by omega]; exact hy22) hq2 (numR_some h3) hq8,hq11]; unfold asR3; rw [hq23]
        rw [hz]
        exact retN_of hM (View.le_trans (View.le_trans hV2 hV11) hV23) ⟨_,_,_,_,_,_,rfl,⟨k26,k27,hls23,ofE_ok hq8 hM.view k30⟩,hc2⟩
       ·
        refine sx_O 189 #[(.agg #[(I6 y22.k),(N6 y22.n),(St y22.s),(.slice a22 y22.l.length c22),(.bool y22.o)])] (LRes RlR 1 eA (resR y22)) (fun W hM => readResults_any eA y22 _ _ W hM.view (hE.le (View.le_trans hV2 hV11)) hts22 (hwd y22 (List.mem_of_getElem? hy22)).1 (hwd y22 (List.mem_of_getElem? hy22)).2) (fun v37 V37 hV37 hP37 => ?_)
        obtain ⟨hq37,e37,rfl⟩ := (hP37).none h6
        refine zq 4 (sx_S 0 b0 (zq 1 (zn (zB [1,0] [(b0,8)] (sx_S 0 b0 (zq 1 (zn (sx_ret ?_))))))))
        refine sx_ret_any [.cell 2 96,.tmp 3] [(.agg #[(.slice a2 l2.length c2),(I6 ((min y6.n 65536 : Nat) : Int)),(I6 e8.s),(St e8.l),(N6 e8.n),(N6 e8.v),(.slice a11 l11.length c11),S0]),(Er.V eA e37)] rfl ⟨(retK' 0 b0 8),retT',trivial⟩ (fun W' hM => ?_)
        have hz : asR l = none := by rw [asR_6 (by omega) hy1 hy6 hy7 hy10 (by rw [show 5 = l.length - 1 by omega]; exact hy22) hq2 (numR_some h3) hq8,hq11]; unfold asR3; rw [hq37]
        rw [hz]
        exact retN_of hM (View.le_trans (View.le_trans hV2 hV11) hV37) ⟨_,_,_,_,_,_,_,_,_,_,_,_,_,_,e37,rfl⟩
      ·
       refine sx_O 188 #[(.agg #[(I6 y10.k),(N6 y10.n),(St y10.s),(.slice a10 y10.l.length c10),(.bool y10.o)])] (LRes PaR 6 eA (pairsR y10)) (fun W hM => readPairs_any eA y10 _ _ W hM.view (hE.le hV2) hts10 (hwd y10 (List.mem_of_getElem? hy10)).1) (fun v51 V51 hV51 hP51 => ?_)
       obtain ⟨hq51,e51,rfl⟩ := (hP51).none h5
       refine zq 4 (sx_S 0 b0 (zq 1 (zn (zQ 1 (sx_R (.bool true) (run_er .neq true _ _ _ _ rfl (Or.inr ⟨rfl,rfl⟩) (by kernel_rfl) eA e51 (by kernel_rfl) (by kernel_rfl)) ?_)))))
       refine zn (sx_T (zB [1,0] [(b0,8)] (sx_S 0 b0 (zq 1 (zn (sx_ret ?_))))))
       refine sx_ret_any [.cell 2 96,.tmp 3] [(.agg #[(.slice a2 l2.length c2),(I6 ((min y6.n 65536 : Nat) : Int)),(I6 e8.s),(St e8.l),(N6 e8.n),(N6 e8.v),S0,S0]),(Er.V eA e51)] rfl ⟨(retK' 0 b0 8),retT',trivial⟩ (fun W' hM => ?_)
       have hz : asR l = none := by obtain ⟨r9,hr9⟩ : ∃ y,l[5]? = some y := get_some (by omega); rw [asR_6 (by omega) hy1 hy6 hy7 hy10 hr9 hq2 (numR_some h3) hq8,hq51]
       rw [hz]
       exact retN_of hM (View.le_trans hV2 hV51) ⟨_,_,_,_,_,_,_,_,_,_,_,_,_,_,e51,rfl⟩
     ·
      have hq62 := Option.not_isSome_iff_eq_none.1 (by rw [h4]; exact Bool.false_ne_true)
      refine sx_C 187 #[(.agg #[(I6 y7.k),(N6 y7.n),(St y7.s),(.slice a7 y7.l.length c7),(.bool y7.o)])] (.tuple #[(.agg #[(I6 0),(St []),(U6 0),(U6 0)]),(I6 2)]) (fun W hM => eOf_none hq62 _ W hM.view ht7) ?_
      refine zq 3 (sx_N (fun b63 => (sx_S 1 b63 (zq 1 (zn (zs (zQ 2 (zn (sx_T (zs (sx_W 2 2 0 [49,50] [.val (.agg #[(.slice a2 l2.length c2),(I6 ((min y6.n 65536 : Nat) : Int)),(I6 0),(St []),(U6 0),(U6 0),S0,S0]),.val (Er.V eA (Er.wrap [110,97,109,101] .leaf))] ⟨?_,?_,trivial⟩ ?_)))))))))))
      · exact oL 0 0 b0 8 [(.slice a2 l2.length c2),(I6 ((min y6.n 65536 : Nat) : Int)),(I6 0),(St []),(U6 0),(U6 0),S0,S0] 96 rfl (.agg #[(.slice a2 l2.length c2),(I6 ((min y6.n 65536 : Nat) : Int)),(I6 0),(St []),(U6 0),(U6 0),S0,S0]) rfl
      · exact obC 1 184 #[(St [110,97,109,101])] rfl (Er.V eA (Er.wrap [110,97,109,101] .leaf)) rfl (by kernel_rfl) (fun W hM => wrong_any eA [110,97,109,101] W hM.view (hE.le hV2)) (by kernel_rfl)
      refine sx_S 0 b0 (zq 1 (zn (sx_ret ?_)))
      refine sx_ret_any [.cell 2 96,.tmp 3] [(.agg #[(.slice a2 l2.length c2),(I6 ((min y6.n 65536 : Nat) : Int)),(I6 0),(St []),(U6 0),(U6 0),S0,S0]),(Er.V eA (Er.wrap [110,97,109,101] .leaf))] rfl ⟨(retK' 0 b0 8),retT',trivial⟩ (fun W' hM => ?_)
      have hz : asR l = none := asR_s hy7 hq62
      rw [hz]
      exact retN_of hM hV2 ⟨_,_,_,_,_,_,_,_,_,_,_,_,_,_,(Er.wrap [110,97,109,101] .leaf),rfl⟩
    ·
     refine sx_C 186 #[(.agg #[(I6 y6.k),(N6 y6.n),(St y6.s),(.slice a6 y6.l.length c6),(.bool y6.o)])] (.tuple #[(I6 0),(Er.V eA (Er.wrap [110,117,109,98,101,114] .leaf))]) (fun W hM => num_no eA y6 _ _ W hM.view (hE.le hV2) h3) ?_
     refine zq 4 (sx_S 0 b0 (zq 1 (zn (zQ 1 (sx_R (.bool true) (run_er .neq true _ _ _ _ rfl (Or.inr ⟨rfl,rfl⟩) (by kernel_rfl) eA (Er.wrap [110,117,109,98,101,114] .leaf) (by kernel_rfl) (by kernel_rfl)) ?_)))))
     refine zn (sx_T (zB [1,0] [(b0,8)] (sx_S 0 b0 (zq 1 (zn (sx_ret ?_))))))
     refine sx_ret_any [.cell 2 96,.tmp 3] [(.agg #[(.slice a2 l2.length c2),(I6 0),(I6 0),(St []),(U6 0),(U6 0),S0,S0]),(Er.V eA (Er.wrap [110,117,109,98,101,114] .leaf))] rfl ⟨(retK' 0 b0 8),retT',trivial⟩ (fun W' hM => ?_)
     have hz : asR l = none := asR_c hy6 (numR_none h3)
     rw [hz]
     exact retN_of hM hV2 ⟨_,_,_,_,_,_,_,_,_,_,_,_,_,_,(Er.wrap [110,117,109,98,101,114] .leaf),rfl⟩
   ·
    refine sx_O 185 #[(.agg #[(I6 y1.k),(N6 y1.n),(St y1.s),(.slice a1 y1.l.length c1),(.bool y1.o)])] (LRes InR 1 eA (tgtR y1)) (fun W hM => readTargets_any eA y1 _ _ W hM.view hE hts1 (hwd y1 (List.mem_of_getElem? hy1)).1) (fun v64 V64 hV64 hP64 => ?_)
    obtain ⟨hq64,e64,rfl⟩ := (hP64).none h2
    refine zq 4 (sx_S 0 b0 (zq 1 (zn (zQ 1 (sx_R (.bool true) (run_er .neq true _ _ _ _ rfl (Or.inr ⟨rfl,rfl⟩) (by kernel_rfl) eA e64 (by kernel_rfl) (by kernel_rfl)) ?_)))))
    refine zn (sx_T (zB [1,0] [(b0,8)] (sx_S 0 b0 (zq 1 (zn (sx_ret ?_))))))
    refine sx_ret_any [.cell 2 96,.tmp 3] [(.agg #[S0,(I6 0),(I6 0),(St []),(U6 0),(U6 0),S0,S0]),(Er.V eA e64)] rfl ⟨(retK' 0 b0 8),retT',trivial⟩ (fun W' hM => ?_)
    have hz : asR l = none := asR_t hy1 hq64
    rw [hz]
    exact retN_of hM hV64 ⟨_,_,_,_,_,_,_,_,_,_,_,_,_,_,e64,rfl⟩
 ·
  have h0d := bne_eq_false_iff_eq.1 h0
  refine zq 4 (zn (sx_F (zk (zs (zQ 1 ?_)))))
  obtain ⟨y68,hy68⟩ : ∃ y,(l)[0]? = some y := ⟨(l)[0]'(by omega),List.getElem?_eq_getElem _⟩
  obtain ⟨b68,f68,cs68,rfl,hU68,ht68⟩ := hl.at_ 0 y68 hy68
  obtain ⟨a68,c68,rfl,hts68,hn68,hs68,hl68⟩ := ht68.form
  refine sx_R (Pt b68 (f68 + 0 * 5)) (rIx 89 rfl b68 f68 l.length cL 0 5) ?_
  refine zU b68 (f68 + 0 * 5) [(I6 y68.k),(N6 y68.n),(St y68.s),(.slice a68 y68.l.length c68),(.bool y68.o)] hU68 89 (.tmp 18) _ Tryz.underlying89 rfl ?_
  rcases Bool.eq_false_or_eq_true ((tgtR y68).isSome) with h7 | h7
  ·
   refine sx_O 185 #[(.agg #[(I6 y68.k),(N6 y68.n),(St y68.s),(.slice a68 y68.l.length c68),(.bool y68.o)])] (LRes InR 1 eA (tgtR y68)) (fun W hM => readTargets_any eA y68 _ _ W hM.view hE hts68 (hwd y68 (List.mem_of_getElem? hy68)).1) (fun v69 V69 hV69 hP69 => ?_)
   have k70 := hl.le hV69
   obtain ⟨l69,a69,c69,hq69,rfl,hls69,hc69⟩ := (hP69).some h7
   have hin69 := hls69.ins
   refine zq 4 (sx_S 0 b0 (zq 1 (zn (zQ 1 (sx_R (.bool false) (run_if00 .neq false _ _ _ rfl (Or.inr ⟨rfl,rfl⟩) (by kernel_rfl) (by kernel_rfl)) ?_)))))
   refine zn (sx_F (zk (zs (zQ 1 ?_))))
   obtain ⟨y73,hy73⟩ : ∃ y,(l)[1]? = some y := ⟨(l)[1]'(by omega),List.getElem?_eq_getElem _⟩
   obtain ⟨b73,f73,cs73,e73,hU73,ht73⟩ := k70.at_ 1 y73 hy73
   obtain ⟨a73,c73,rfl,hts73,hn73,hs73,hl73⟩ := ht73.form
   cases e73
   refine sx_R (Pt b68 (f68 + 1 * 5)) (rIx 89 rfl b68 f68 l.length cL 1 5) ?_
   refine zU b68 (f68 + 1 * 5) [(I6 y73.k),(N6 y73.n),(St y73.s),(.slice a73 y73.l.length c73),(.bool y73.o)] hU73 89 (.tmp 30) _ Tryz.underlying89 rfl ?_
   rcases Bool.eq_false_or_eq_true (y73.k == 0) with h8 | h8
   ·
    have h8d := eq_of_beq h8
    refine sx_C 186 #[(.agg #[(I6 y73.k),(N6 y73.n),(St y73.s),(.slice a73 y73.l.length c73),(.bool y73.o)])] (.tuple #[(I6 ((min y73.n 65536 : Nat) : Int)),.nilIface]) (fun W hM => num_ok eA y73 _ _ W hM.view h8 (by obtain ⟨_,_,_,_,h9,_⟩ := (ht73).form; exact h9)) ?_
    refine zq 4 (sx_S 0 b0 (zq 1 (zn (zQ 1 (sx_R (.bool false) (run_if00 .neq false _ _ _ rfl (Or.inr ⟨rfl,rfl⟩) (by kernel_rfl) (by kernel_rfl)) ?_)))))
    refine zn (sx_F (zk (zQ 1 ?_)))
    obtain ⟨y74,hy74⟩ : ∃ y,(l)[3]? = some y := ⟨(l)[3]'(by omega),List.getElem?_eq_getElem _⟩
    obtain ⟨b74,f74,cs74,e74,hU74,ht74⟩ := k70.at_ 3 y74 hy74
    obtain ⟨a74,c74,rfl,hts74,hn74,hs74,hl74⟩ := ht74.form
    cases e74
    refine sx_R (Pt b68 (f68 + 3 * 5)) (rIx 89 rfl b68 f68 l.length cL 3 5) ?_
    refine zU b68 (f68 + 3 * 5) [(I6 y74.k),(N6 y74.n),(St y74.s),(.slice a74 y74.l.length c74),(.bool y74.o)] hU74 89 (.tmp 42) _ Tryz.underlying89 rfl ?_
    rcases Bool.eq_false_or_eq_true ((ofE y74).isSome) with h9 | h9
    ·
     obtain ⟨e75,hq75⟩ := Option.isSome_iff_exists.1 h9
     refine sx_C 187 #[(.agg #[(I6 y74.k),(N6 y74.n),(St y74.s),(.slice a74 y74.l.length c74),(.bool y74.o)])] (.tuple #[(.agg #[(I6 e75.s),(St e75.l),(N6 e75.n),(N6 e75.v)]),(I6 0)]) (fun W hM => eOf_some hq75 _ W hM.view ht74) ?_
     refine zq 3 (sx_N (fun b76 => (sx_S 1 b76 (zq 1 (zn (zs (zQ 2 (zn (sx_F (zk (zB [2,0] [(b76,4)] (sx_S 0 b0 (zn (zs (zQ 3 (zn (sx_F' ((((l.length : Nat)) : Int) == 6) (beq_eq_false_iff_ne.2 (by omega)) ?_)))))))))))))))))
     refine zk (zQ 4 (sx_E 72 (I6 (IntKind.i64.wrap ((((l.length : Nat)) : Int) - 1))) (I6 ((l.length - 1 : Nat) : Int)) (congrArg (Value.int .i64) (by rw [IntWalk.i64_in _ (by omega)]; omega)) ?_))
     obtain ⟨y77,hy77⟩ : ∃ y,(l)[(l.length - 1)]? = some y := ⟨(l)[(l.length - 1)]'(by omega),List.getElem?_eq_getElem _⟩
     obtain ⟨b77,f77,cs77,e77,hU77,ht77⟩ := k70.at_ (l.length - 1) y77 hy77
     obtain ⟨a77,c77,rfl,hts77,hn77,hs77,hl77⟩ := ht77.form
     cases e77
     refine sx_R (.pointer (some ⟨b68,f68 + (l.length - 1) * 5,none⟩)) (rIx 89 rfl b68 f68 l.length cL (l.length - 1) 5) ?_
     refine zU b68 (f68 + (l.length - 1) * 5) [(I6 y77.k),(N6 y77.n),(St y77.s),(.slice a77 y77.l.length c77),(.bool y77.o)] hU77 89 (.tmp 73) _ Tryz.underlying89 rfl ?_
     rcases Bool.eq_false_or_eq_true ((resR y77).isSome) with h10 | h10
     ·
      refine sx_O 189 #[(.agg #[(I6 y77.k),(N6 y77.n),(St y77.s),(.slice a77 y77.l.length c77),(.bool y77.o)])] (LRes RlR 1 eA (resR y77)) (fun W hM => readResults_any eA y77 _ _ W hM.view (hE.le hV69) hts77 (hwd y77 (List.mem_of_getElem? hy77)).1 (hwd y77 (List.mem_of_getElem? hy77)).2) (fun v78 V78 hV78 hP78 => ?_)
      have k81 := hin69.le hV78
      have k84 := ht74.le hV78
      obtain ⟨l78,a78,c78,hq78,rfl,hls78,hc78⟩ := (hP78).some h10
      refine zq 4 (sx_S 0 b0 (zq 1 (zn (zB [1,0] [(b0,8)] (sx_S 0 b0 (zq 1 (zn (sx_ret ?_))))))))
      refine sx_ret_any [.cell 2 96,.tmp 3] [(.agg #[(.slice a69 l69.length c69),(I6 ((min y73.n 65536 : Nat) : Int)),(I6 e75.s),(St e75.l),(N6 e75.n),(N6 e75.v),S0,(.slice a78 l78.length c78)]),.nilIface] rfl ⟨(retK' 0 b0 8),retT',trivial⟩ (fun W' hM => ?_)
      have hz : asR l = some ⟨l69,((min y73.n 65536 : Nat) : Int),e75,[],l78⟩ := by rw [asR_5 (by omega) hy68 hy73 hy74 (by rw [show 4 = l.length - 1 by omega]; exact hy77) hq69 (numR_some h8) hq75]; unfold asR3; rw [hq78]
      rw [hz]
      exact retN_of hM (View.le_trans hV69 hV78) ⟨_,_,_,_,_,_,rfl,⟨k81,LsAt.nil,hls78,ofE_ok hq75 hM.view k84⟩,hc69⟩
     ·
      refine sx_O 189 #[(.agg #[(I6 y77.k),(N6 y77.n),(St y77.s),(.slice a77 y77.l.length c77),(.bool y77.o)])] (LRes RlR 1 eA (resR y77)) (fun W hM => readResults_any eA y77 _ _ W hM.view (hE.le hV69) hts77 (hwd y77 (List.mem_of_getElem? hy77)).1 (hwd y77 (List.mem_of_getElem? hy77)).2) (fun v89 V89 hV89 hP89 => ?_)
      obtain ⟨hq89,e89,rfl⟩ := (hP89).none h10
      refine zq 4 (sx_S 0 b0 (zq 1 (zn (zB [1,0] [(b0,8)] (sx_S 0 b0 (zq 1 (zn (sx_ret ?_))))))))
      refine sx_ret_any [.cell 2 96,.tmp 3] [(.agg #[(.slice a69 l69.length c69),(I6 ((min y73.n 65536 : Nat) : Int)),(I6 e75.s),(St e75.l),(N6 e75.n),(N6 e75.v),S0,S0]),(Er.V eA e89)] rfl ⟨(retK' 0 b0 8),retT',trivial⟩ (fun W' hM => ?_)
      have hz : asR l = none := by rw [asR_5 (by omega) hy68 hy73 hy74 (by rw [show 4 = l.length - 1 by omega]; exact hy77) hq69 (numR_some h8) hq75]; unfold asR3; rw [hq89]
      rw [hz]
      exact retN_of hM (View.le_trans hV69 hV89) ⟨_,_,_,_,_,_,_,_,_,_,_,_,_,_,e89,rfl⟩
    ·
     have hq100 := Option.not_isSome_iff_eq_none.1 (by rw [h9]; exact Bool.false_ne_true)
     refine sx_C 187 #[(.agg #[(I6 y74.k),(N6 y74.n),(St y74.s),(.slice a74 y74.l.length c74),(.bool y74.o)])] (.tuple #[(.agg #[(I6 0),(St []),(U6 0),(U6 0)]),(I6 2)]) (fun W hM => eOf_none hq100 _ W hM.view ht74) ?_
     refine zq 3 (sx_N (fun b101 => (sx_S 1 b101 (zq 1 (zn (zs (zQ 2 (zn (sx_T (zs (sx_W 2 2 0 [49,50] [.val (.agg #[(.slice a69 l69.length c69),(I6 ((min y73.n 65536 : Nat) : Int)),(I6 0),(St []),(U6 0),(U6 0),S0,S0]),.val (Er.V eA (Er.wrap [110,97,109,101] .leaf))] ⟨?_,?_,trivial⟩ ?_)))))))))))
     · exact oL 0 0 b0 8 [(.slice a69 l69.length c69),(I6 ((min y73.n 65536 : Nat) : Int)),(I6 0),(St []),(U6 0),(U6 0),S0,S0] 96 rfl (.agg #[(.slice a69 l69.length c69),(I6 ((min y73.n 65536 : Nat) : Int)),(I6 0),(St []),(U6 0),(U6 0),S0,S0]) rfl
     · exact obC 1 184 #[(St [110,97,109,101])] rfl (Er.V eA (Er.wrap [110,97,109,101] .leaf)) rfl (by kernel_rfl) (fun W hM => wrong_any eA [110,97,109,101] W hM.view (hE.le hV69)) (by kernel_rfl)
     refine sx_S 0 b0 (zq 1 (zn (sx_ret ?_)))
     refine sx_ret_any [.cell 2 96,.tmp 3] [(.agg #[(.slice a69 l69.length c69),(I6 ((min y73.n 65536 : Nat) : Int)),(I6 0),(St []),(U6 0),(U6 0),S0,S0]),(Er.V eA (Er.wrap [110,97,109,101] .leaf))] rfl ⟨(retK' 0 b0 8),retT',trivial⟩ (fun W' hM => ?_)
     have hz : asR l = none := asR_s hy74 hq100
     rw [hz]
     exact retN_of hM hV69 ⟨_,_,_,_,_,_,_,_,_,_,_,_,_,_,(Er.wrap [110,97,109,101] .leaf),rfl⟩
   ·
    refine sx_C 186 #[(.agg #[(I6 y73.k),(N6 y73.n),(St y73.s),(.slice a73 y73.l.length c73),(.bool y73.o)])] (.tuple #[(I6 0),(Er.V eA (Er.wrap [110,117,109,98,101,114] .leaf))]) (fun W hM => num_no eA y73 _ _ W hM.view (hE.le hV69) h8) ?_
    refine zq 4 (sx_S 0 b0 (zq 1 (zn (zQ 1 (sx_R (.bool true) (run_er .neq true _ _ _ _ rfl (Or.inr ⟨rfl,rfl⟩) (by kernel_rfl) eA (Er.wrap [110,117,109,98,101,114] .leaf) (by kernel_rfl) (by kernel_rfl)) ?_)))))
    refine zn (sx_T (zB [1,0] [(b0,8)] (sx_S 0 b0 (zq 1 (zn (sx_ret ?_))))))
    refine sx_ret_any [.cell 2 96,.tmp 3] [(.agg #[(.slice a69 l69.length c69),(I6 0),(I6 0),(St []),(U6 0),(U6 0),S0,S0]),(Er.V eA (Er.wrap [110,117,109,98,101,114] .leaf))] rfl ⟨(retK' 0 b0 8),retT',trivial⟩ (fun W' hM => ?_)
    have hz : asR l = none := asR_c hy73 (numR_none h8)
    rw [hz]
    exact retN_of hM hV69 ⟨_,_,_,_,_,_,_,_,_,_,_,_,_,_,(Er.wrap [110,117,109,98,101,114] .leaf),rfl⟩
  ·
   refine sx_O 185 #[(.agg #[(I6 y68.k),(N6 y68.n),(St y68.s),(.slice a68 y68.l.length c68),(.bool y68.o)])] (LRes InR 1 eA (tgtR y68)) (fun W hM => readTargets_any eA y68 _ _ W hM.view hE hts68 (hwd y68 (List.mem_of_getElem? hy68)).1) (fun v102 V102 hV102 hP102 => ?_)
   obtain ⟨hq102,e102,rfl⟩ := (hP102).none h7
   refine zq 4 (sx_S 0 b0 (zq 1 (zn (zQ 1 (sx_R (.bool true) (run_er .neq true _ _ _ _ rfl (Or.inr ⟨rfl,rfl⟩) (by kernel_rfl) eA e102 (by kernel_rfl) (by kernel_rfl)) ?_)))))
   refine zn (sx_T (zB [1,0] [(b0,8)] (sx_S 0 b0 (zq 1 (zn (sx_ret ?_))))))
   refine sx_ret_any [.cell 2 96,.tmp 3] [(.agg #[S0,(I6 0),(I6 0),(St []),(U6 0),(U6 0),S0,S0]),(Er.V eA e102)] rfl ⟨(retK' 0 b0 8),retT',trivial⟩ (fun W' hM => ?_)
   have hz : asR l = none := asR_t hy68 hq102
   rw [hz]
   exact retN_of hM hV102 ⟨_,_,_,_,_,_,_,_,_,_,_,_,_,_,e102,rfl⟩
structure Op where
 k : Int
 n : Int
 t : Int
def Op.cs (o : Op) : List Value := [.int .i64 o.k, .int .i64 o.n, .int .i64 o.t]
def Op.V (o : Op) : Value := .agg o.cs.toArray
def OpR (_ : View) (o : Op) (cs : List Value) : Prop := cs = o.cs
instance opR : RecOk OpR 3 := ⟨fun _ h => h, fun h => by rw [h]; rfl, fun h u hu => by
 rw [h] at hu
 simp only [Op.cs, List.mem_cons, List.mem_nil_iff, or_false] at hu
 rcases hu with rfl | rfl | rfl <;> rfl⟩
open Classical in
noncomputable def parseS (s : List UInt8) : Option As := if h : ∃ a : As, a.ok ∧ a.right = true ∧ a.bytes = s then some h.choose else none
theorem parseS_some {a : As} (ho : a.ok) (h : a.right = true) : parseS a.bytes = some a := by
 have hx : ∃ b : As, b.ok ∧ b.right = true ∧ b.bytes = a.bytes := ⟨a, ho, h, rfl⟩
 unfold parseS
 rw [dif_pos hx]
 obtain ⟨h1, h2, h3⟩ := hx.choose_spec
 rw [bytes_inj h2 h h1 ho h3]
theorem parseS_spec {s : List UInt8} {a : As} (h : parseS s = some a) : a.ok ∧ a.right = true ∧ a.bytes = s := by
 unfold parseS at h
 split at h
 ·
  next hx =>
  obtain rfl := Option.some.inj h
  exact hx.choose_spec
 · cases h
theorem parseS_none {s : List UInt8} (h : ∀ a : As, a.ok → a.right = true → a.bytes ≠ s) : parseS s = none := by
 unfold parseS
 rw [dif_neg fun ⟨a, h1, h2, h3⟩ => h a h1 h2 h3]
def opsOf (kind n : Int) (ts : List Int) : List Op := ts.map fun t => ⟨kind, n, t⟩
noncomputable def opsF (typ kind ctx : Int) (out : Bk → Bool) : List Bk → Option (List Op)
 | [] => some []
 | x :: l => if x.t != typ || out x then opsF typ kind ctx out l else match parseS x.d with
  | none => none
  | some a => if a.c != ctx then none else match opsF typ kind ctx out l with
   | none => none
   | some r => some (opsOf kind x.n a.t ++ r)
def amongB (l : List Op) (kind target : Int) : Bool := l.any fun o => o.k == kind && o.t == target
noncomputable def opsB (l : List Bk) : Option (List Op) := match opsF 12 2 2 (fun _ => false) l with
 | none => none
 | some se => match opsF 11 1 1 (fun x => amongB se 2 x.n) l with
  | none => none
  | some si => some (se ++ si)
def safeB (x : Bk) : Bool := x.t == 11 || x.t == 12
def changesB (x : Bk) : Bool := x.t == 6 || x.t == 7 || x.t == 10
def wholeB (p : Pr) (l : List Bk) : Bool := (andI .u64 p.f 1 == 0) || !(l.any safeB)
def thereB (l : List Bk) (ops : List Op) : Bool := ops.all fun o => (getB l o.t).2 || o.t == 0
def onceG (pre : List Op) : List Op → Bool
 | [] => true
 | o :: r => if amongB pre o.k o.t then false else onceG (pre ++ [o]) r
def sealsG (l : List Bk) (pre : List Op) : List Op → Bool
 | [] => true
 | o :: r => if o.k != 2 then sealsG l (pre ++ [o]) r else if (pre.any fun q => q.k == 2 && q.n == o.n) || o.t == 0 || (getB l o.t).1.t == 12 || changesB (getB l o.t).1 then false else sealsG l (pre ++ [o]) r
def signOk (l : List Bk) (ops : List Op) (o : Op) : Bool := o.k != 1 || o.t == 0 || !(safeB (getB l o.t).1 || changesB (getB l o.t).1 || amongB ops 2 o.t)
def signsB (l : List Bk) (ops : List Op) : Bool := ops.all (signOk l ops)
def mixZ (p : Pr) (l : List Bk) (ops : List Op) : Int := if wholeB p l && thereB l ops && onceG [] ops && sealsG l [] ops && signsB l ops then 0 else 8
noncomputable def soundZ (p : Pr) (l : List Bk) : Int := if bnRight p l != 0 then bnRight p l else match opsB l with
 | none => 2
 | some ops => mixZ p l ops
def twiceG (pre : List Int) : List Int → Bool
 | [] => false
 | n :: r => if pre.contains n then true else twiceG (pre ++ [n]) r
def listedZ (l : List Bk) (kind : Int) (ts : List Int) : Int := if (kind != 1 && kind != 2) || ts.length == 0 then 1 else if twiceG [] ts then 1 else if ts.all (fun t => (getB l t).2 || t == 0) then 0 else 15
noncomputable def mayOps (l : List Bk) (kind : Int) (ts : List Int) : List Op := (((opsB l).getD []) ++ opsOf kind (freeB l : Int) ts).filter fun o => !(kind == 2 && o.k == 1 && o.n == ts.headD 0)
noncomputable def mayZ (p : Pr) (l : List Bk) (kind : Int) (ts : List Int) : Int := if soundZ p l != 0 then soundZ p l else if listedZ l kind ts != 0 then listedZ l kind ts else if andI .u64 p.f 1 != 0 then 8 else mixZ p l (mayOps l kind ts)
def PsIs (p : Nat) (ps : Ps) (x : Option (Itm.Tr × Nat)) (v : Value) (V : View) (σ : Blks) : Prop := ∃ t cs ps', v = .agg cs.toArray ∧ TV V t cs ∧ σ = [(p, Ps.O ps')] ∧ ps'.b = ps.b ∧ match x with
 | some (t', k) => t = t' ∧ ps'.at_ = ps.at_ + k ∧ ps'.e = 0
 | none => ps'.e ≠ 0
theorem PsIs.mono {p : Nat} {ps : Ps} {x : Option (Itm.Tr × Nat)} {v : Value} {V V' : View} {σ : Blks} (h : View.le V V') (hx : PsIs p ps x v V σ) : PsIs p ps x v V' σ := by
 obtain ⟨t, cs, ps', e, ht, r⟩ := hx
 exact ⟨t, cs, ps', e, ht.le h, r⟩
theorem psIs_fail {p : Nat} {ps : Ps} {V : View} {at_ : Nat} {e : Int} (hp : ps.e = 0) (he : e ≠ 0) : PsIs p ps none itZ V [(p, (ps.fail at_ e).O)] := by
 refine ⟨Itm.numT 0, _, ps.fail at_ e, rfl, TV.num V 0 (by decide), rfl, ?_, ?_⟩ <;> unfold Ps.fail <;> rw [if_pos (by rw [hp]; rfl)]
 exact he
theorem rAtM (rd : Rd) (r k : Nat) {W0 : Cx} {U : View} {σ : Blks} {W : World} (hM : Mem W0 U σ W) (hk : σ[k]? = some (r, rd.O)) : Calls Tryz.prog 214 #[.pointer (some ⟨r, 0, none⟩)] W (Ret (.int .i64 (rd.at_ : Int)) W) := by
 obtain ⟨V, _, h2, h3⟩ := hM.peek k r rd.cs _ hk
 exact rAtU_any rd r W h3 h2
theorem pStr2 (ps : Ps) (p : Nat) (n z : Nat) (o : Bool) (X : List UInt8 × Rd) (hp : ps.ok) (he : ps.e = 0) (hx : hdF ps.rest = some (2, n, o, z)) (hX : strF ps.rest n z o 1073741824 = X) {W0 : Cx} {U : View} {σF : Blks} {W : World} (hM : Mem W0 U ([(p, ps.O)] ++ σF) W) : Calls Tryz.prog 215 #[.pointer (some ⟨p, 0, none⟩), .int .i64 2] W (RetM W0 U σF (PsIs p ps (strT2 2 X))) := by
 have hle := hp.le
 have hlen := hp.len
 unfold R47 at hlen
 have hrl : ps.rest.length = ps.b.length - ps.at_ := List.length_drop
 have hXl := strF_len (most := 1073741824) hx
 rw [hX] at hXl
 have hM2 : Mem W0 U ([(bK p [(St ps.b),(I6 (ps.at_ : Int)),(I6 ps.e)] 245)] ++ σF) W := hM.eqv (by kernel_rfl)
 refine sx_enterM (f := 215) 45 U Tryz.func215 rfl rfl rfl hM2 ?_
 refine zs (zr (sx_NI 1 (fun b0 => ?_)))
 refine zn (zQ 1 (sx_MI 0 (bK p [(St ps.b),(I6 (ps.at_ : Int)),(I6 ps.e)] 245) 211 #[(Pt p 0)] (fun v _ σ' => ∃ r,v = .pointer (some ⟨r,0,none⟩) ∧ σ' = [(r,(Rd.new ps.rest).O),(p,ps.O)]) (fun W hM => pReader_any ps p hp hM) (fun v1 V1 s1 hV1 hP1 => ?_)))
 obtain ⟨r1,rfl,rfl⟩ := hP1
 refine zq 1 (zn (zQ 2 (sx_NI 3 (fun b2 => ?_))))
 refine sx_S 3 b2 (zn (zs (zQ 2 (zn (sx_T (zr (zq 1 (sx_MI 0 (r1,(Rd.new ps.rest).O) 239 #[(Pt r1 0),(I6 1073741824)] (StrIs r1 X) (fun W hM => hX ▸ rBytes_any ps.rest r1 n z 1073741824 o hx (Ps.rest_len hp) (by decide) hM) (fun v3 V3 s3 hV3 hP3 => ?_)))))))))
 obtain ⟨rfl,rfl⟩ := hP3
 refine zq 1 (sx_S 3 b2 (zn (zs (zQ 1 (sx_MI 0 (r1,X.2.O) 213 #[(Pt r1 0)] (fun v V σ' => v = .tuple #[.int .i64 X.2.bad,.int .i64 X.2.e] ∧ σ' = [(r1,X.2.O)]) (fun W hM => rBad_any X.2 r1 (hM.eqv (by kernel_rfl))) (fun v4 V4 s4 hV4 hP4 => ?_))))))
 obtain ⟨rfl,rfl⟩ := hP4
 refine zq 5 (zn (zQ 2 (zn (sx_D (X.2.e != 0) (fun h0 => ?_) (fun h0 => ?_)))))
 ·
  have h0d := bne_iff_ne.1 h0
  refine zB [0,0,0,0,2,0] [(p,1)] (sx_MI 1 (bK p [(St ps.b),(I6 (ps.at_ : Int)),(I6 ps.e)] 245) 182 #[(Pt p 0),(I6 (ps.at_ : Int)),(I6 X.2.e)] (fun v _ σ' => v = itZ ∧ σ' = [(p,(ps.fail ps.at_ X.2.e).O)]) (fun W hM => pFail_any ps p ps.at_ X.2.e (hM.eqv (by kernel_rfl))) (fun v5 V5 s5 hV5 hP5 => ?_))
  obtain ⟨rfl,rfl⟩ := hP5
  refine sx_S 2 b0 (zn (sx_ret ?_))
  refine sx_ret_any [.cell 4 89] [(.agg #[(I6 0),(U6 0),(St []),S0,(.bool false)])] rfl ⟨(retK' 2 b0 5),trivial⟩ (fun W' hM => ?_)
  have hne := bne_iff_ne.1 h0
  have hz : strT2 2 X = none := by unfold strT2; rw [if_neg (by simpa using hne)]
  rw [hz]
  exact retM_at 0 4 _ hM (View.le_trans (View.le_trans (View.le_trans hV1 hV3) hV4) hV5) (psIs_fail (at_ := ps.at_) (e := X.2.e) he hne)
 ·
  have h0d := bne_eq_false_iff_eq.1 h0
  refine zk (zs (sx_W 6 4 3 [35,36,37,38,39,40] [.val (Pt p 0),.val (Pt p 0),.val (Pt p 1),.val (I6 (ps.at_ : Int)),.val (Pt r1 0),.val (I6 (X.2.at_ : Int))] ⟨?_,?_,?_,?_,?_,?_,trivial⟩ ?_))
  · exact oQ 0 rfl (Pt p 0) rfl
  · exact oQ 1 rfl (Pt p 0) rfl
  · exact oQ 2 rfl (Pt p 1) rfl
  · exact oL 3 1 p 1 [(St ps.b),(I6 (ps.at_ : Int)),(I6 ps.e)] 245 rfl (I6 (ps.at_ : Int)) rfl
  · exact oQ 4 rfl (Pt r1 0) rfl
  · exact obC 5 214 #[(Pt r1 0)] rfl (I6 (X.2.at_ : Int)) rfl (by kernel_rfl) (fun W hM => rAtM X.2 r1 0 hM (by kernel_rfl)) (by kernel_rfl)
  refine zq 1 (sx_E 41 (I6 (IntKind.i64.wrap ((ps.at_ : Int) + (X.2.at_ : Int)))) (I6 ((ps.at_ : Int) + (X.2.at_ : Int))) i6v ?_)
  refine zq 2 (sx_S 1 p (zn (zB [4] [(b2,5)] (sx_S 2 b0 (zn (sx_ret ?_))))))
  refine sx_ret_any [.cell 4 89] [(.agg #[(I6 2),(U6 0),(St X.1),S0,(.bool false)])] rfl ⟨(retK' 2 b0 5),trivial⟩ (fun W' hM => ?_)
  have heq := bne_eq_false_iff_eq.1 h0
  have hz : strT2 2 X = some (.mk 2 0 X.1 [] false,X.2.at_) := by unfold strT2; rw [if_pos (by rw [heq]; rfl)]
  rw [hz]
  exact retM_at 1 4 _ hM (View.le_trans (View.le_trans hV1 hV3) hV4) ⟨_,_,⟨ps.b,ps.at_ + X.2.at_,ps.e⟩,rfl,TV.str _ X.1 (by unfold R47; omega),rfl,rfl,rfl,rfl,he⟩
theorem pStr3 (ps : Ps) (p : Nat) (n z : Nat) (o : Bool) (X : List UInt8 × Rd) (hp : ps.ok) (he : ps.e = 0) (hx : hdF ps.rest = some (3, n, o, z)) (hX : strF ps.rest n z o 1073741824 = X) {W0 : Cx} {U : View} {σF : Blks} {W : World} (hM : Mem W0 U ([(p, ps.O)] ++ σF) W) : Calls Tryz.prog 215 #[.pointer (some ⟨p, 0, none⟩), .int .i64 3] W (RetM W0 U σF (PsIs p ps (strT2 3 X))) := by
 have hle := hp.le
 have hlen := hp.len
 unfold R47 at hlen
 have hrl : ps.rest.length = ps.b.length - ps.at_ := List.length_drop
 have hXl := strF_len (most := 1073741824) hx
 rw [hX] at hXl
 have hM2 : Mem W0 U ([(bK p [(St ps.b),(I6 (ps.at_ : Int)),(I6 ps.e)] 245)] ++ σF) W := hM.eqv (by kernel_rfl)
 refine sx_enterM (f := 215) 45 U Tryz.func215 rfl rfl rfl hM2 ?_
 refine zs (zr (sx_NI 1 (fun b0 => ?_)))
 refine zn (zQ 1 (sx_MI 0 (bK p [(St ps.b),(I6 (ps.at_ : Int)),(I6 ps.e)] 245) 211 #[(Pt p 0)] (fun v _ σ' => ∃ r,v = .pointer (some ⟨r,0,none⟩) ∧ σ' = [(r,(Rd.new ps.rest).O),(p,ps.O)]) (fun W hM => pReader_any ps p hp hM) (fun v1 V1 s1 hV1 hP1 => ?_)))
 obtain ⟨r1,rfl,rfl⟩ := hP1
 refine zq 1 (zn (zQ 2 (sx_NI 3 (fun b2 => ?_))))
 refine sx_S 3 b2 (zn (zs (zQ 2 (zn (sx_F (zr (zq 1 (sx_MI 0 (r1,(Rd.new ps.rest).O) 240 #[(Pt r1 0),(I6 1073741824)] (StrIs r1 X) (fun W hM => hX ▸ rText_any ps.rest r1 n z 1073741824 o hx (Ps.rest_len hp) (by decide) hM) (fun v3 V3 s3 hV3 hP3 => ?_)))))))))
 obtain ⟨rfl,rfl⟩ := hP3
 refine zq 1 (sx_S 3 b2 (zn (zs (zQ 1 (sx_MI 0 (r1,X.2.O) 213 #[(Pt r1 0)] (fun v V σ' => v = .tuple #[.int .i64 X.2.bad,.int .i64 X.2.e] ∧ σ' = [(r1,X.2.O)]) (fun W hM => rBad_any X.2 r1 (hM.eqv (by kernel_rfl))) (fun v4 V4 s4 hV4 hP4 => ?_))))))
 obtain ⟨rfl,rfl⟩ := hP4
 refine zq 5 (zn (zQ 2 (zn (sx_D (X.2.e != 0) (fun h0 => ?_) (fun h0 => ?_)))))
 ·
  have h0d := bne_iff_ne.1 h0
  refine zB [0,0,0,0,2,0] [(p,1)] (sx_MI 1 (bK p [(St ps.b),(I6 (ps.at_ : Int)),(I6 ps.e)] 245) 182 #[(Pt p 0),(I6 (ps.at_ : Int)),(I6 X.2.e)] (fun v _ σ' => v = itZ ∧ σ' = [(p,(ps.fail ps.at_ X.2.e).O)]) (fun W hM => pFail_any ps p ps.at_ X.2.e (hM.eqv (by kernel_rfl))) (fun v5 V5 s5 hV5 hP5 => ?_))
  obtain ⟨rfl,rfl⟩ := hP5
  refine sx_S 2 b0 (zn (sx_ret ?_))
  refine sx_ret_any [.cell 4 89] [(.agg #[(I6 0),(U6 0),(St []),S0,(.bool false)])] rfl ⟨(retK' 2 b0 5),trivial⟩ (fun W' hM => ?_)
  have hne := bne_iff_ne.1 h0
  have hz : strT2 3 X = none := by unfold strT2; rw [if_neg (by simpa using hne)]
  rw [hz]
  exact retM_at 0 4 _ hM (View.le_trans (View.le_trans (View.le_trans hV1 hV3) hV4) hV5) (psIs_fail (at_ := ps.at_) (e := X.2.e) he hne)
 ·
  have h0d := bne_eq_false_iff_eq.1 h0
  refine zk (zs (sx_W 6 4 3 [35,36,37,38,39,40] [.val (Pt p 0),.val (Pt p 0),.val (Pt p 1),.val (I6 (ps.at_ : Int)),.val (Pt r1 0),.val (I6 (X.2.at_ : Int))] ⟨?_,?_,?_,?_,?_,?_,trivial⟩ ?_))
  · exact oQ 0 rfl (Pt p 0) rfl
  · exact oQ 1 rfl (Pt p 0) rfl
  · exact oQ 2 rfl (Pt p 1) rfl
  · exact oL 3 1 p 1 [(St ps.b),(I6 (ps.at_ : Int)),(I6 ps.e)] 245 rfl (I6 (ps.at_ : Int)) rfl
  · exact oQ 4 rfl (Pt r1 0) rfl
  · exact obC 5 214 #[(Pt r1 0)] rfl (I6 (X.2.at_ : Int)) rfl (by kernel_rfl) (fun W hM => rAtM X.2 r1 0 hM (by kernel_rfl)) (by kernel_rfl)
  refine zq 1 (sx_E 41 (I6 (IntKind.i64.wrap ((ps.at_ : Int) + (X.2.at_ : Int)))) (I6 ((ps.at_ : Int) + (X.2.at_ : Int))) i6v ?_)
  refine zq 2 (sx_S 1 p (zn (zB [4] [(b2,5)] (sx_S 2 b0 (zn (sx_ret ?_))))))
  refine sx_ret_any [.cell 4 89] [(.agg #[(I6 3),(U6 0),(St X.1),S0,(.bool false)])] rfl ⟨(retK' 2 b0 5),trivial⟩ (fun W' hM => ?_)
  have heq := bne_eq_false_iff_eq.1 h0
  have hz : strT2 3 X = some (.mk 3 0 X.1 [] false,X.2.at_) := by unfold strT2; rw [if_pos (by rw [heq]; rfl)]
  rw [hz]
  exact retM_at 1 4 _ hM (View.le_trans (View.le_trans hV1 hV3) hV4) ⟨_,_,⟨ps.b,ps.at_ + X.2.at_,ps.e⟩,rfl,TV.txt _ X.1 (by unfold R47; omega),rfl,rfl,rfl,rfl,he⟩
def ItemSpec (d : Nat) : Prop := ∀ (ps : Ps) (p : Nat), ps.ok → ps.e = 0 → ∀ {W0 : Cx} {U : View} {σF : Blks} {W : World}, Mem W0 U ([(p, ps.O)] ++ σF) W → Calls Tryz.prog 181 #[.pointer (some ⟨p, 0, none⟩), .int .i64 (d : Int)] W (RetM W0 U σF (PsIs p ps (itF d ps.rest)))
structure Lp where
 r : Rw
 xs : List Value
 m : Nat
 L : List (Itm.Tr × List Value)
 ps : Ps
 V : View
def contF (a : List Itm.Tr) (k : Nat) : Option (List Itm.Tr × Nat) → Option (List Itm.Tr × Nat)
 | none => none
 | some (ts, j) => some (a ++ ts, k + j)
structure LInv (G : Nat → List UInt8 → Option (List Itm.Tr × Nat)) (ps : Ps) (x : Lp) : Prop where
 b : x.ps.b = ps.b
 ok : x.ps.e = 0 → x.ps.ok
 at_ : x.ps.e = 0 → ps.at_ ≤ x.ps.at_
 go : x.ps.e = 0 → contF (x.L.map Prod.fst) (x.ps.at_ - ps.at_) (G x.m x.ps.rest) = G 0 ps.rest
 no : x.ps.e ≠ 0 → G 0 ps.rest = none
def StepG (f : List UInt8 → Option (Itm.Tr × Nat)) (G : Nat → List UInt8 → Option (List Itm.Tr × Nat)) (i : Nat) (s : List UInt8) : Prop := G i s = match f s with
 | none => none
 | some (t, k) => contF [t] k (G (i + 1) (s.drop k))
theorem LInv.zero {G : Nat → List UInt8 → Option (List Itm.Tr × Nat)} {ps : Ps} (hp : ps.ok) (he : ps.e = 0) {V : View} : LInv G ps ⟨Rw.nil, [], 0, [], ps, V⟩ :=
 ⟨rfl, fun _ => hp, fun _ => Nat.le_refl _, fun _ => by
  show contF [] (ps.at_ - ps.at_) (G 0 ps.rest) = _
  rw [Nat.sub_self]
  cases G 0 ps.rest with
  | none => rfl
  | some q => simp [contF], fun h => absurd he h⟩
theorem LInv.step {f : List UInt8 → Option (Itm.Tr × Nat)} {G : Nat → List UInt8 → Option (List Itm.Tr × Nat)} (hf : ∀ s t k, f s = some (t, k) → k ≤ s.length) {ps ps' : Ps} {x : Lp} (h : LInv G ps x) (he : x.ps.e = 0) (hs : StepG f G x.m x.ps.rest) {t : Itm.Tr} {cs xs : List Value} {r : Rw} {V : View} (hb : ps'.b = x.ps.b)
  (hx : match f x.ps.rest with
   | some (_, k) => ps'.at_ = x.ps.at_ + k ∧ ps'.e = 0
   | none => ps'.e ≠ 0) (ht : ∀ t' k, f x.ps.rest = some (t', k) → t = t') : LInv G ps ⟨r, xs, x.m + 1, x.L ++ [(t, cs)], ps', V⟩ := by
 have hgo := h.go he
 have hok := h.ok he
 have hat := h.at_ he
 unfold StepG at hs
 cases hq : f x.ps.rest with
 | none =>
  rw [hq] at hx hs
  simp only at hx hs
  rw [hs] at hgo
  exact ⟨hb.trans h.b, fun e => absurd e hx, fun e => absurd e hx, fun e => absurd e hx, fun _ => hgo.symm⟩
 | some q =>
  obtain ⟨t', k⟩ := q
  rw [hq] at hx hs
  simp only at hx hs
  obtain ⟨h2, h3⟩ := hx
  obtain rfl := ht t' k hq
  have hk := hf _ _ _ hq
  have hrl : x.ps.rest.length = x.ps.b.length - x.ps.at_ := List.length_drop
  have hle := hok.le
  refine ⟨hb.trans h.b, fun _ => ⟨by rw [h2, hb]; omega, by rw [hb]; exact hok.len⟩, fun _ => by show ps.at_ ≤ ps'.at_; omega, fun _ => ?_, fun e => absurd h3 e⟩
  rw [hs] at hgo
  rw [← hgo]
  have hr : ps'.rest = x.ps.rest.drop k := by unfold Ps.rest; rw [hb, h2, List.drop_drop]
  show contF ((x.L ++ [(t, cs)]).map Prod.fst) (ps'.at_ - ps.at_) (G (x.m + 1) ps'.rest) = _
  rw [hr]
  cases G (x.m + 1) (x.ps.rest.drop k) with
  | none => rfl
  | some q =>
   obtain ⟨ts, j⟩ := q
   simp only [contF, List.map_append, List.map_cons, List.map_nil, List.append_assoc]
   congr 2
   omega
def closedG (f : List UInt8 → Option (Itm.Tr × Nat)) (n i : Nat) (s : List UInt8) : Option (List Itm.Tr × Nat) := closedF f (n - i) s
def openG (f : List UInt8 → Option (Itm.Tr × Nat)) (i : Nat) (s : List UInt8) : Option (List Itm.Tr × Nat) := openF f (1000 - i) s
theorem closedG_step {f : List UInt8 → Option (Itm.Tr × Nat)} {n i : Nat} (h : i < n) (s : List UInt8) : StepG f (closedG f n) i s := by
 unfold StepG closedG
 rw [show n - i = (n - (i + 1)) + 1 by omega, closedF]
 cases f s with
 | none => rfl
 | some q =>
  obtain ⟨t, k⟩ := q
  simp only
  cases closedF f (n - (i + 1)) (s.drop k) with
  | none => rfl
  | some q => rfl
theorem openG_step {f : List UInt8 → Option (Itm.Tr × Nat)} {i : Nat} {s : List UInt8} (h : i < 1000) (hb : brkB s = false) : StepG f (openG f) i s := by
 unfold StepG openG
 rw [show 1000 - i = (1000 - (i + 1)) + 1 by omega, openF, hb]
 simp only [Bool.false_eq_true, if_false]
 cases f s with
 | none => rfl
 | some q =>
  obtain ⟨t, k⟩ := q
  simp only
  cases openF f (1000 - (i + 1)) (s.drop k) with
  | none => rfl
  | some q => rfl
def OneIs (x : Option (Itm.Tr × Nat)) (v : Value) (V : View) : Prop := ∃ t cs, v = .agg cs.toArray ∧ TV V t cs ∧ ∀ t' k, x = some (t', k) → t = t'
def RowIs (x : Option (Itm.Tr × Nat)) (v : Value) (V : View) : Prop := ∃ t cs g, v = .slice (some ⟨g, 0, none⟩) 1 1 ∧ V.range g 0 cs ∧ TV V t cs ∧ ∀ t' k, x = some (t', k) → t = t'
theorem PsIs.one {p : Nat} {ps : Ps} {x : Option (Itm.Tr × Nat)} {v : Value} {V : View} {σ : Blks} (h : PsIs p ps x v V σ) : OneIs x v V := by
 obtain ⟨t, cs, ps', e, ht, _, _, hx⟩ := h
 refine ⟨t, cs, e, ht, fun t' k hq => ?_⟩
 subst hq
 exact hx.1
theorem OneIs.mono {x : Option (Itm.Tr × Nat)} {v : Value} {V V' : View} (hl : View.le V V') (h : OneIs x v V) : OneIs x v V' := by
 obtain ⟨t, cs, e, ht, hx⟩ := h
 exact ⟨t, cs, e, ht.le hl, hx⟩
theorem RowIs.mono {x : Option (Itm.Tr × Nat)} {v : Value} {V V' : View} (hl : View.le V V') (h : RowIs x v V) : RowIs x v V' := by
 obtain ⟨t, cs, g, e, hg, ht, hx⟩ := h
 exact ⟨t, cs, g, e, View.range_le hl hg, ht.le hl, hx⟩
def AtIs (p : Nat) (ps : Ps) (x : Option (Itm.Tr × Nat)) (σ : Blks) : Prop := ∃ ps', σ = [(p, Ps.O ps')] ∧ ps'.b = ps.b ∧ match x with
 | some (_, k) => ps'.at_ = ps.at_ + k ∧ ps'.e = 0
 | none => ps'.e ≠ 0
theorem PsIs.at_ {p : Nat} {ps : Ps} {x : Option (Itm.Tr × Nat)} {v : Value} {V : View} {σ : Blks} (h : PsIs p ps x v V σ) : AtIs p ps x σ := by
 obtain ⟨t, cs, ps', e, ht, h1, h2, hx⟩ := h
 refine ⟨ps', h1, h2, ?_⟩
 cases x with
 | none => exact hx
 | some q => exact ⟨hx.2.1, hx.2.2⟩
theorem lp_some {G : Nat → List UInt8 → Option (List Itm.Tr × Nat)} {ps ps' : Ps} {x : Lp} {p : Nat} {V : View} {v : Value} {cs : List Value} {o : Bool} {j : Nat} (h : LInv G ps x) (he : x.ps.e = 0) (hg : G x.m x.ps.rest = some ([], j)) (hv : v = .agg cs.toArray) (hT : TV V (.mk 4 0 [] (x.L.map Prod.fst) o) cs) (hb : ps'.b = x.ps.b) (ha : ps'.at_ = x.ps.at_ + j) (he' : ps'.e = 0) :
  PsIs p ps (arrT2 o 0 (G 0 ps.rest)) v V [(p, ps'.O)] := by
 have hgo := h.go he
 have hat := h.at_ he
 rw [hg] at hgo
 rw [← hgo]
 refine ⟨_, cs, ps', hv, hT, rfl, hb.trans h.b, ?_⟩
 simp only [arrT2, contF, List.append_nil, true_and]
 exact ⟨by omega, he'⟩
theorem lp_none {G : Nat → List UInt8 → Option (List Itm.Tr × Nat)} {ps ps' : Ps} {p : Nat} {V : View} {v : Value} {cs : List Value} {t : Itm.Tr} {o : Bool} (hg : G 0 ps.rest = none) (hv : v = .agg cs.toArray) (hT : TV V t cs) (hb : ps'.b = ps.b) (he' : ps'.e ≠ 0) : PsIs p ps (arrT2 o 0 (G 0 ps.rest)) v V [(p, ps'.O)] := by
 rw [hg]
 exact ⟨t, cs, ps', hv, hT, rfl, hb, he'⟩
theorem pBroken_any (ps : Ps) (p : Nat) (hp : ps.ok) {W0 : Cx} {U : View} {σF : Blks} {W : World} (hM : Mem W0 U ([(p, ps.O)] ++ σF) W) : Calls Tryz.prog 242 #[.pointer (some ⟨p, 0, none⟩)] W (RetM W0 U σF fun v _ σ' => v = .bool (brkB ps.rest) ∧ σ' = [(p, ps.O)]) := by
 cases hx : hdF ps.rest with
 | none => exact pBroken_no ps p hp hx hM
 | some q =>
  obtain ⟨m, n, o, z⟩ := q
  exact pBroken_ok ps p m n z o hp hx hM
set_option maxHeartbeats 16000000 in
theorem pList_closed (d : Nat) (n : Nat) (hn : n ≤ 1000) (hdl : d ≤ 1000) (hI : ItemSpec d) (ps : Ps) (p : Nat) (hp : ps.ok) (he : ps.e = 0) {W0 : Cx} {U : View} {σF : Blks} {W : World} (hM : Mem W0 U ([(p, ps.O)] ++ σF) W) : Calls Tryz.prog 217 #[.pointer (some ⟨p, 0, none⟩), .int .i64 (n : Int), .int .i64 ((d + 1 : Nat) : Int)] W (RetM W0 U σF (PsIs p ps (arrT2 false 0 ((closedG (itF d) n) 0 ps.rest)))) := by
 have hn0 : decide ((n : Int) < 0) = false := decide_eq_false (by omega)
 have hd1 : IntKind.i64.wrap (((d + 1 : Nat) : Int) - 1) = (d : Int) := by rw [IntWalk.i64_in _ (by omega)]; omega
 have hM2 : Mem W0 U ([(bK p [(St ps.b),(I6 (ps.at_ : Int)),(I6 ps.e)] 245)] ++ σF) W := hM.eqv (by kernel_rfl)
 refine sx_enterM (f := 217) 57 U Tryz.func217 rfl rfl rfl hM2 ?_
 refine zs (zr (sx_NI 1 (fun b0 => ?_)))
 refine zn (zQ 2 (sx_E 9 (.bool (decide ((n : Int) < 0))) (.bool false) (congrArg Value.bool hn0) ?_))
 refine zq 1 (sx_NI 2 (fun b1 => ?_))
 refine sx_S 2 b1 (zn (zs (sx_block ?_)))
 refine sx_loop (α := Lp) (fun x => [0,1,2,6,7].zip [(Pt p 0),(I6 (n : Int)),(I6 ((d + 1 : Nat) : Int)),(Pt b0 0),(Pt b1 0)]) (fun x => x.V) (fun x => ([(bK p [(St x.ps.b),(I6 (x.ps.at_ : Int)),(I6 x.ps.e)] 245),(b0,.cells [(I6 0),(U6 0),(St []),S0,(.bool false)].toArray 89 (0,0)),(b1,.cells [(I6 4),(U6 0),(St []),(x.r.V x.m),(.bool false)].toArray 89 (0,0))] ++ σF ++ x.r.B 89 x.xs)) (fun x => View.le U x.V ∧ RwR TV 5 x.V x.r x.xs x.m x.L ∧ x.m ≤ n ∧ LInv (closedG (itF d) n) ps x) (fun x => 1001 - x.m) ⟨Rw.nil,[],0,[],ps,U⟩ ?_ (look_zip _ _ (by kernel_rfl)) (fun _ h => h.nilE) ?_
 · exact ⟨View.le_refl _,RwR.nil,Nat.zero_le _,LInv.zero hp he⟩
 intro x hx
 obtain ⟨hxl,hxr,hxm,hx⟩ := hx
 refine zs (zB [0,0,0,1,0,0] [(p,1)] (sx_BL 16 (x.ps.e == 0) (fun h0 => ?_) (fun h0 => ?_)))
 ·
  have h0d := eq_of_beq h0
  have he0 : x.ps.e = 0 := h0d
  have hle1 := (hx.ok he0).le
  have hln1 := (hx.ok he0).len
  unfold R47 at hln1
  refine sx_B [0,3] [(b1,1)] (sx_R (L6 x.m) (run_lenRw x.r 5 x.m x.xs hxr.ok (.tmp 18) 87 89 rfl (by kernel_rfl) (by kernel_rfl)) ?_)
  refine zq 3 (zn (sx_D ((((x.m : Nat)) : Int) != (n : Int)) (fun h1 => ?_) (fun h1 => ?_)))
  ·
   have h1d := bne_iff_ne.1 h1
   refine zk (sx_block (zs (zQ 2 (sx_E 24 (.bool (decide ((n : Int) < 0))) (.bool false) (congrArg Value.bool hn0) ?_))))
   refine zq 4 (zn (sx_F (zk (zs (zB [0,3] [(b1,1)] (sx_R (L6 x.m) (run_lenRw x.r 5 x.m x.xs hxr.ok (.tmp 38) 87 89 rfl (by kernel_rfl) (by kernel_rfl)) ?_))))))
   refine zq 1 (zn (sx_F' ((((x.m : Nat)) : Int) == 1000) (beq_eq_false_iff_ne.2 (by omega)) ?_))
   refine zk ?_
   refine sx_drawnM 7 3 2 [47,48,49,50,51,52,53] [.val (Pt b1 3),.val (x.r.V x.m),.val (Pt p 0),.val (I6 ((d + 1 : Nat) : Int)),.val (I6 (d : Int)),.mem (OneIs (itF d x.ps.rest)),.mem (RowIs (itF d x.ps.rest))] 5 [(bK p [(St x.ps.b),(I6 (x.ps.at_ : Int)),(I6 x.ps.e)] 245)] ([] ++ ([(b0,.cells [(I6 0),(U6 0),(St []),S0,(.bool false)].toArray 89 (0,0)),(b1,.cells [(I6 4),(U6 0),(St []),(x.r.V x.m),(.bool false)].toArray 89 (0,0))] ++ σF ++ x.r.B 89 x.xs)) (PsIs p x.ps (itF d x.ps.rest)) (pick_perm [] ([(b0,.cells [(I6 0),(U6 0),(St []),S0,(.bool false)].toArray 89 (0,0)),(b1,.cells [(I6 4),(U6 0),(St []),(x.r.V x.m),(.bool false)].toArray 89 (0,0))] ++ σF ++ x.r.B 89 x.xs) (bK p [(St x.ps.b),(I6 (x.ps.at_ : Int)),(I6 x.ps.e)] 245) (by kernel_rfl)) (by kernel_rfl) rfl rfl (by kernel_rfl) (by kernel_rfl) (by kernel_rfl) (by kernel_rfl) (by kernel_rfl) (by kernel_rfl) (by simp only [List.forall_mem_cons]; exact ⟨trivial,trivial,trivial,trivial,trivial,by intro v V V2 hV2 hP; (first | trivial | exact OneIs.mono hV2 hP | exact RowIs.mono hV2 hP),by intro v V V2 hV2 hP; (first | trivial | exact OneIs.mono hV2 hP | exact RowIs.mono hV2 hP),fun _ h => by cases h⟩) (show (5 : Nat) < 7 by decide) _ rfl (by intro v V s2 h; exact h.one) (by intro v V V2 s2 h1 h2; exact h2.mono h1) ⟨?_,?_,?_,?_,?_,?_,?_,trivial⟩ [0,1,2,6,7,11,12,13,14,15,16,17,18,19,20,21,22,23,24,25,26,27,28,37,38,39,40,47,48,49,50,51,52,53] (fun u => [(Pt p 0),(I6 (n : Int)),(I6 ((d + 1 : Nat) : Int)),(Pt b0 0),(Pt b1 0),(Pt p 0),(Pt p 0),(Pt p 2),(I6 x.ps.e),(.bool (x.ps.e == 0)),(.bool true),(Pt b1 3),(x.r.V x.m),(L6 x.m),(I6 (n : Int)),(.bool ((((x.m : Nat)) : Int) != (n : Int))),(.bool ((((x.m : Nat)) : Int) != (n : Int))),(I6 (n : Int)),(.bool false),(.bool false),undef,undef,(.bool false),(Pt b1 3),(x.r.V x.m),(L6 x.m),(.bool ((((x.m : Nat)) : Int) == 1000)),(Pt b1 3),(x.r.V x.m),(Pt p 0),(I6 ((d + 1 : Nat) : Int)),(I6 (d : Int)),u 5,u 6]) (fun u => by kernel_rfl) ?_
   · exact ObM.o 0 (show (0 : Nat) ≠ 5 by decide) (fun σ' => oqQ 0 rfl (Pt b1 3) (Pt b1 3) rfl rfl (fun u => by kernel_rfl) (fun u => by kernel_rfl))
   · exact ObM.o 1 (show (1 : Nat) ≠ 5 by decide) (fun σ' => oqL 1 1 b1 1 [(I6 4),(U6 0),(St []),(x.r.V x.m),(.bool false)] 89 rfl (x.r.V x.m) rfl (by kernel_rfl) (fun u => by kernel_rfl) (fun u => by kernel_rfl))
   · exact ObM.o 2 (show (2 : Nat) ≠ 5 by decide) (fun σ' => oqQ 2 rfl (Pt p 0) (Pt p 0) rfl rfl (fun u => by kernel_rfl) (fun u => by kernel_rfl))
   · exact ObM.o 3 (show (3 : Nat) ≠ 5 by decide) (fun σ' => oqQ 3 rfl (I6 ((d + 1 : Nat) : Int)) (I6 ((d + 1 : Nat) : Int)) rfl rfl (fun u => by kernel_rfl) (fun u => by kernel_rfl))
   · exact ObM.o 4 (show (4 : Nat) ≠ 5 by decide) (fun σ' => oqQ 4 rfl (I6 (IntKind.i64.wrap (((d + 1 : Nat) : Int) - 1))) (I6 (d : Int)) (congrArg (Value.int .i64) hd1) rfl (fun u => by kernel_rfl) (fun u => by kernel_rfl))
   ·
    refine ObM.call ⟨_,181,[49,51],(fun u => [(Pt p 0),(I6 (d : Int))]),rfl,rfl,(fun u => by kernel_rfl),fun u V hV hdq => ?_⟩
    refine ⟨#[(Pt p 0),(I6 (d : Int))],by kernel_rfl,fun W hM => ?_⟩
    exact hI x.ps p (hx.ok he0) he0 (hM.eqv (by kernel_rfl))
   ·
    refine ObM.o 6 (show (6 : Nat) ≠ 5 by decide) (fun σ' => oqN 6 rfl rfl (RowIs (itF d x.ps.rest)) rfl [52] (fun u => [u 5]) (fun u => by kernel_rfl) (fun u V hV hdq => ?_))
    have e5 : (OneIs (itF d x.ps.rest)) (u 5) V := hdq 5 (by kernel_rfl)
    obtain ⟨t5,cs5,q5,ht5,hz5⟩ := e5
    obtain ⟨a5,c5,rfl,hts5,hn5,hs5,hl5⟩ := ht5.form
    refine ⟨[(I6 t5.k),(N6 t5.n),(St t5.s),(.slice a5 t5.l.length c5),(.bool t5.o)],89,fun r => (Sl r 0 1 1),?_,fun g V' hV' hR => ?_⟩
    · rw [q5]; kernel_rfl
    exact ⟨t5,_,g,rfl,hR,ht5.le hV',hz5⟩
   intro u2 V2 s2 hV2 hdq2 hP2
   have k3 := hxr.le hV2
   generalize u2 5 = z2 at hP2 ⊢
   obtain ⟨ps2,rfl,hb2,hy2⟩ := (hP2).at_
   have e6_2 : (RowIs (itF d x.ps.rest)) (u2 6) V2 := hdq2 6 (by decide)
   obtain ⟨t6_2,cs6_2,g6_2,q6_2,hg6_2,ht6_2,hz6_2⟩ := e6_2
   obtain ⟨a6_2,c6_2,rfl,hts6_2,hn6_2,hs6_2,hl6_2⟩ := ht6_2.form
   rw [q6_2]
   refine sx_appE x.r x.xs x.m ([(bK p [(St ps2.b),(I6 (ps2.at_ : Int)),(I6 ps2.e)] 245),(b0,.cells [(I6 0),(U6 0),(St []),S0,(.bool false)].toArray 89 (0,0)),(b1,.cells [(I6 4),(U6 0),(St []),(x.r.V x.m),(.bool false)].toArray 89 (0,0))] ++ σF) 89 87 5 64 1 (by kernel_rfl) hxr.ok (.tmp 48) (.tmp 53) rfl (by kernel_rfl) g6_2 0 1 [(I6 t6_2.k),(N6 t6_2.n),(St t6_2.s),(.slice a6_2 t6_2.l.length c6_2),(.bool t6_2.o)] (by kernel_rfl) (fun W hM => View.range_of hg6_2 hM.view) rfl (List.all_eq_true.1 (by kernel_rfl)) (by decide) (by unfold maxLen; omega) (by omega) (by kernel_rfl) (by kernel_rfl) (by kernel_rfl) (by kernel_rfl) (by kernel_rfl) (fun r4 hr4 => ?_)
   refine zq 1 ?_
   refine sx_sR 2 b1 3 (x.m + 1) 5 r4 (x.xs ++ [(I6 t6_2.k),(N6 t6_2.n),(St t6_2.s),(.slice a6_2 t6_2.l.length c6_2),(.bool t6_2.o)]) hr4 [(I6 4),(U6 0),(St []),(x.r.V x.m),(.bool false)] 89 87 _ _ rfl (by kernel_rfl) (by kernel_rfl) (by kernel_rfl) (fun a c => by kernel_rfl) (by kernel_rfl) rfl (by kernel_rfl) ?_
   refine zn ?_
   refine ⟨⟨r4,(x.xs ++ [(I6 t6_2.k),(N6 t6_2.n),(St t6_2.s),(.slice a6_2 t6_2.l.length c6_2),(.bool t6_2.o)]),x.m + 1,x.L ++ [(t6_2,[(I6 t6_2.k),(N6 t6_2.n),(St t6_2.s),(.slice a6_2 t6_2.l.length c6_2),(.bool t6_2.o)])],ps2,V2⟩,?_,?_,look_zip _ _ (by kernel_rfl),fun _ h => h.eqv (by kernel_rfl)⟩
   · exact ⟨(View.le_trans hxl hV2),RwR.snoc k3 ht6_2 hr4,by show x.m + 1 ≤ n; omega,hx.step (itF_len d) he0 (closedG_step (by omega) _) hb2 hy2 hz6_2⟩
   · show 1001 - (x.m + 1) < 1001 - x.m; omega
  ·
   have h1d := bne_eq_false_iff_eq.1 h1
   refine sx_exit (zs (zr ?_))
   refine sx_fzM x.r x.xs 5 x.m ([(bK p [(St x.ps.b),(I6 (x.ps.at_ : Int)),(I6 x.ps.e)] 245),(b0,.cells [(I6 0),(U6 0),(St []),S0,(.bool false)].toArray 89 (0,0)),(b1,.cells [(I6 4),(U6 0),(St []),(x.r.V x.m),(.bool false)].toArray 89 (0,0))] ++ σF) 89 (by kernel_rfl) hxr.ok (fun a5 c5 V5 hV5 hR5 hE5 => ?_)
   rw [hE5]
   have k6 := hxr.le hV5
   refine sx_B [3] [(b1,5)] (sx_S 1 b0 (zn (sx_ret ?_)))
   refine sx_ret_any [.cell 6 89] [(.agg #[(I6 4),(U6 0),(St []),(.slice a5 x.m c5),(.bool false)])] rfl ⟨(retK' 1 b0 5),trivial⟩ (fun W' hM => ?_)
   have hT2 := k6.arr c5 hR5 (View.le_refl _) (by unfold R47; omega) false
   refine retM_at 0 3 (bK p [(St x.ps.b),(I6 (x.ps.at_ : Int)),(I6 x.ps.e)] 245) hM (View.le_trans hxl hV5) ?_
   exact lp_some hx he0 (ps' := x.ps) (show (closedG (itF d) n) x.m x.ps.rest = some ([],0) from by unfold closedG; rw [show n - x.m = 0 by omega]; rfl) rfl hT2 rfl rfl he0
 ·
  have h0d := beq_eq_false_iff_ne.1 h0
  refine zq 6 (zn (sx_F (sx_exit (zs (zr ?_)))))
  refine sx_fzM x.r x.xs 5 x.m ([(bK p [(St x.ps.b),(I6 (x.ps.at_ : Int)),(I6 x.ps.e)] 245),(b0,.cells [(I6 0),(U6 0),(St []),S0,(.bool false)].toArray 89 (0,0)),(b1,.cells [(I6 4),(U6 0),(St []),(x.r.V x.m),(.bool false)].toArray 89 (0,0))] ++ σF) 89 (by kernel_rfl) hxr.ok (fun a7 c7 V7 hV7 hR7 hE7 => ?_)
  rw [hE7]
  have k8 := hxr.le hV7
  refine sx_B [3] [(b1,5)] (sx_S 1 b0 (zn (sx_ret ?_)))
  refine sx_ret_any [.cell 6 89] [(.agg #[(I6 4),(U6 0),(St []),(.slice a7 x.m c7),(.bool false)])] rfl ⟨(retK' 1 b0 5),trivial⟩ (fun W' hM => ?_)
  have hT2 := k8.arr c7 hR7 (View.le_refl _) (by unfold R47; omega) false
  refine retM_at 0 3 (bK p [(St x.ps.b),(I6 (x.ps.at_ : Int)),(I6 x.ps.e)] 245) hM (View.le_trans hxl hV7) ?_
  exact lp_none (ps' := x.ps) (hx.no (by simpa using h0)) rfl hT2 hx.b (by simpa using h0)
set_option maxHeartbeats 16000000 in
theorem pList_open (d : Nat) (hdl : d ≤ 1000) (hI : ItemSpec d) (ps : Ps) (p : Nat) (hp : ps.ok) (he : ps.e = 0) {W0 : Cx} {U : View} {σF : Blks} {W : World} (hM : Mem W0 U ([(p, ps.O)] ++ σF) W) : Calls Tryz.prog 217 #[.pointer (some ⟨p, 0, none⟩), .int .i64 (-1), .int .i64 ((d + 1 : Nat) : Int)] W (RetM W0 U σF (PsIs p ps (arrT2 true 0 ((openG (itF d)) 0 ps.rest)))) := by
 have hd1 : IntKind.i64.wrap (((d + 1 : Nat) : Int) - 1) = (d : Int) := by rw [IntWalk.i64_in _ (by omega)]; omega
 have hM2 : Mem W0 U ([(bK p [(St ps.b),(I6 (ps.at_ : Int)),(I6 ps.e)] 245)] ++ σF) W := hM.eqv (by kernel_rfl)
 refine sx_enterM (f := 217) 57 U Tryz.func217 rfl rfl rfl hM2 ?_
 refine zs (zr (sx_NI 1 (fun b0 => ?_)))
 refine zn (zQ 3 (sx_NI 2 (fun b1 => ?_)))
 refine sx_S 2 b1 (zn (zs (sx_block ?_)))
 refine sx_loop (α := Lp) (fun x => [0,1,2,6,7].zip [(Pt p 0),(I6 (-1)),(I6 ((d + 1 : Nat) : Int)),(Pt b0 0),(Pt b1 0)]) (fun x => x.V) (fun x => ([(bK p [(St x.ps.b),(I6 (x.ps.at_ : Int)),(I6 x.ps.e)] 245),(b0,.cells [(I6 0),(U6 0),(St []),S0,(.bool false)].toArray 89 (0,0)),(b1,.cells [(I6 4),(U6 0),(St []),(x.r.V x.m),(.bool true)].toArray 89 (0,0))] ++ σF ++ x.r.B 89 x.xs)) (fun x => View.le U x.V ∧ RwR TV 5 x.V x.r x.xs x.m x.L ∧ x.m ≤ 1000 ∧ LInv (openG (itF d)) ps x) (fun x => 1001 - x.m) ⟨Rw.nil,[],0,[],ps,U⟩ ?_ (look_zip _ _ (by kernel_rfl)) (fun _ h => h.nilE) ?_
 · exact ⟨View.le_refl _,RwR.nil,Nat.zero_le _,LInv.zero hp he⟩
 intro x hx
 obtain ⟨hxl,hxr,hxm,hx⟩ := hx
 refine zs (zB [0,0,0,1,0,0] [(p,1)] (sx_BL 16 (x.ps.e == 0) (fun h0 => ?_) (fun h0 => ?_)))
 ·
  have h0d := eq_of_beq h0
  have he0 : x.ps.e = 0 := h0d
  have hle1 := (hx.ok he0).le
  have hln1 := (hx.ok he0).len
  unfold R47 at hln1
  refine sx_B [0,3] [(b1,1)] (sx_R (L6 x.m) (run_lenRw x.r 5 x.m x.xs hxr.ok (.tmp 18) 87 89 rfl (by kernel_rfl) (by kernel_rfl)) ?_)
  refine zq 3 (zn (sx_T' ((((x.m : Nat)) : Int) != (-1)) (bne_iff_ne.2 (by omega)) ?_))
  refine zk (sx_block (zs (zQ 4 (sx_MI 0 (bK p [(St x.ps.b),(I6 (x.ps.at_ : Int)),(I6 x.ps.e)] 245) 242 #[(Pt p 0)] (fun v _ σ' => v = .bool (brkB x.ps.rest) ∧ σ' = [(p,x.ps.O)]) (fun W hM => pBroken_any x.ps p (hx.ok he0) (hM.eqv (by kernel_rfl))) (fun v2 V2 s2 hV2 hP2 => ?_)))))
  have k3 := hxr.le hV2
  obtain ⟨rfl,rfl⟩ := hP2
  refine zq 1 (zn (sx_D (brkB x.ps.rest) (fun h1 => ?_) (fun h1 => ?_)))
  ·
   refine zB [0,0,0,1,0] [(p,1)] (sx_E 33 (I6 (IntKind.i64.wrap ((x.ps.at_ : Int) + 1))) (I6 ((x.ps.at_ : Int) + 1)) i6v ?_)
   refine zq 2 (sx_S 0 p (zn (zs (zr ?_))))
   refine sx_fzM x.r x.xs 5 x.m ([(bK p [(St x.ps.b),(I6 ((x.ps.at_ : Int) + 1)),(I6 x.ps.e)] 245),(b0,.cells [(I6 0),(U6 0),(St []),S0,(.bool false)].toArray 89 (0,0)),(b1,.cells [(I6 4),(U6 0),(St []),(x.r.V x.m),(.bool true)].toArray 89 (0,0))] ++ σF) 89 (by kernel_rfl) hxr.ok (fun a4 c4 V4 hV4 hR4 hE4 => ?_)
   rw [hE4]
   have k5 := k3.le hV4
   refine sx_B [3] [(b1,5)] (sx_S 1 b0 (zn (sx_ret ?_)))
   refine sx_ret_any [.cell 6 89] [(.agg #[(I6 4),(U6 0),(St []),(.slice a4 x.m c4),(.bool true)])] rfl ⟨(retK' 1 b0 5),trivial⟩ (fun W' hM => ?_)
   have hT2 := k5.arr c4 hR4 (View.le_refl _) (by unfold R47; omega) true
   refine retM_at 0 3 (bK p [(St x.ps.b),(I6 ((x.ps.at_ : Int) + 1)),(I6 x.ps.e)] 245) hM (View.le_trans (View.le_trans hxl hV2) hV4) ?_
   exact lp_some hx he0 (ps' := ⟨x.ps.b,x.ps.at_ + 1,x.ps.e⟩) (show (openG (itF d)) x.m x.ps.rest = some ([],1) from by unfold openG; cases 1000 - x.m <;> rw [openF,if_pos h1]) rfl hT2 rfl rfl he0
  ·
   refine zk (zs (zB [0,3] [(b1,1)] (sx_R (L6 x.m) (run_lenRw x.r 5 x.m x.xs hxr.ok (.tmp 38) 87 89 rfl (by kernel_rfl) (by kernel_rfl)) ?_)))
   refine zq 1 (zn (sx_D ((((x.m : Nat)) : Int) == 1000) (fun h2 => ?_) (fun h2 => ?_)))
   ·
    have h2d := eq_of_beq h2
    refine zB [0,0,0,0,1] [(p,1)] (sx_MI 0 (bK p [(St x.ps.b),(I6 (x.ps.at_ : Int)),(I6 x.ps.e)] 245) 182 #[(Pt p 0),(I6 (x.ps.at_ : Int)),(I6 4)] (fun v _ σ' => v = itZ ∧ σ' = [(p,(x.ps.fail x.ps.at_ 4).O)]) (fun W hM => pFail_any x.ps p x.ps.at_ 4 (hM.eqv (by kernel_rfl))) (fun v6 V6 s6 hV6 hP6 => ?_))
    obtain ⟨rfl,rfl⟩ := hP6
    refine sx_S 1 b0 (zn (sx_ret ?_))
    refine sx_ret_any [.cell 6 89] [(.agg #[(I6 0),(U6 0),(St []),S0,(.bool false)])] rfl ⟨(retK' 1 b0 5),trivial⟩ (fun W' hM => ?_)
    have hM2 := (hM.eqv (show _ = (([(p,(x.ps.fail x.ps.at_ 4).O),(b0,.cells [(I6 0),(U6 0),(St []),S0,(.bool false)].toArray 89 (0,0)),(b1,.cells [(I6 4),(U6 0),(St []),(x.r.V x.m),(.bool true)].toArray 89 (0,0))] : Blks) ++ σF) ++ x.r.B 89 x.xs from by kernel_rfl)).sub (List.sublist_append_left _ _)
    have hfe : (x.ps.fail x.ps.at_ 4).b = x.ps.b ∧ (x.ps.fail x.ps.at_ 4).e = 4 := by unfold Ps.fail; rw [if_pos (by rw [he0]; rfl)]; exact ⟨rfl,rfl⟩
    exact retM_at 0 3 _ hM2 ((View.le_trans (View.le_trans hxl hV2) hV6)) (lp_none (by have hg := hx.go he0; rw [← hg,show (openG (itF d)) x.m x.ps.rest = none from by unfold openG; rw [show 1000 - x.m = 0 by omega,openF,h1]; rfl]; rfl) rfl (TV.num _ 0 (by decide)) (hfe.1.trans hx.b) (by rw [hfe.2]; decide))
   ·
    have h2d := beq_eq_false_iff_ne.1 h2
    refine zk ?_
    refine sx_drawnM 7 3 2 [47,48,49,50,51,52,53] [.val (Pt b1 3),.val (x.r.V x.m),.val (Pt p 0),.val (I6 ((d + 1 : Nat) : Int)),.val (I6 (d : Int)),.mem (OneIs (itF d x.ps.rest)),.mem (RowIs (itF d x.ps.rest))] 5 [(bK p [(St x.ps.b),(I6 (x.ps.at_ : Int)),(I6 x.ps.e)] 245)] ([] ++ ([(b0,.cells [(I6 0),(U6 0),(St []),S0,(.bool false)].toArray 89 (0,0)),(b1,.cells [(I6 4),(U6 0),(St []),(x.r.V x.m),(.bool true)].toArray 89 (0,0))] ++ σF ++ x.r.B 89 x.xs)) (PsIs p x.ps (itF d x.ps.rest)) (pick_perm [] ([(b0,.cells [(I6 0),(U6 0),(St []),S0,(.bool false)].toArray 89 (0,0)),(b1,.cells [(I6 4),(U6 0),(St []),(x.r.V x.m),(.bool true)].toArray 89 (0,0))] ++ σF ++ x.r.B 89 x.xs) (bK p [(St x.ps.b),(I6 (x.ps.at_ : Int)),(I6 x.ps.e)] 245) (by kernel_rfl)) (by kernel_rfl) rfl rfl (by kernel_rfl) (by kernel_rfl) (by kernel_rfl) (by kernel_rfl) (by kernel_rfl) (by kernel_rfl) (by simp only [List.forall_mem_cons]; exact ⟨trivial,trivial,trivial,trivial,trivial,by intro v V V2 hV2 hP; (first | trivial | exact OneIs.mono hV2 hP | exact RowIs.mono hV2 hP),by intro v V V2 hV2 hP; (first | trivial | exact OneIs.mono hV2 hP | exact RowIs.mono hV2 hP),fun _ h => by cases h⟩) (show (5 : Nat) < 7 by decide) _ rfl (by intro v V s2 h; exact h.one) (by intro v V V2 s2 h1 h2; exact h2.mono h1) ⟨?_,?_,?_,?_,?_,?_,?_,trivial⟩ [0,1,2,6,7,11,12,13,14,15,16,17,18,19,20,21,22,23,24,25,26,27,28,37,38,39,40,47,48,49,50,51,52,53] (fun u => [(Pt p 0),(I6 (-1)),(I6 ((d + 1 : Nat) : Int)),(Pt b0 0),(Pt b1 0),(Pt p 0),(Pt p 0),(Pt p 2),(I6 x.ps.e),(.bool (x.ps.e == 0)),(.bool true),(Pt b1 3),(x.r.V x.m),(L6 x.m),(I6 (-1)),(.bool ((((x.m : Nat)) : Int) != (-1))),(.bool ((((x.m : Nat)) : Int) != (-1))),(I6 (-1)),(.bool true),(.bool true),(Pt p 0),(.bool (brkB x.ps.rest)),(.bool (brkB x.ps.rest)),(Pt b1 3),(x.r.V x.m),(L6 x.m),(.bool ((((x.m : Nat)) : Int) == 1000)),(Pt b1 3),(x.r.V x.m),(Pt p 0),(I6 ((d + 1 : Nat) : Int)),(I6 (d : Int)),u 5,u 6]) (fun u => by kernel_rfl) ?_
    · exact ObM.o 0 (show (0 : Nat) ≠ 5 by decide) (fun σ' => oqQ 0 rfl (Pt b1 3) (Pt b1 3) rfl rfl (fun u => by kernel_rfl) (fun u => by kernel_rfl))
    · exact ObM.o 1 (show (1 : Nat) ≠ 5 by decide) (fun σ' => oqL 1 1 b1 1 [(I6 4),(U6 0),(St []),(x.r.V x.m),(.bool true)] 89 rfl (x.r.V x.m) rfl (by kernel_rfl) (fun u => by kernel_rfl) (fun u => by kernel_rfl))
    · exact ObM.o 2 (show (2 : Nat) ≠ 5 by decide) (fun σ' => oqQ 2 rfl (Pt p 0) (Pt p 0) rfl rfl (fun u => by kernel_rfl) (fun u => by kernel_rfl))
    · exact ObM.o 3 (show (3 : Nat) ≠ 5 by decide) (fun σ' => oqQ 3 rfl (I6 ((d + 1 : Nat) : Int)) (I6 ((d + 1 : Nat) : Int)) rfl rfl (fun u => by kernel_rfl) (fun u => by kernel_rfl))
    · exact ObM.o 4 (show (4 : Nat) ≠ 5 by decide) (fun σ' => oqQ 4 rfl (I6 (IntKind.i64.wrap (((d + 1 : Nat) : Int) - 1))) (I6 (d : Int)) (congrArg (Value.int .i64) hd1) rfl (fun u => by kernel_rfl) (fun u => by kernel_rfl))
    ·
     refine ObM.call ⟨_,181,[49,51],(fun u => [(Pt p 0),(I6 (d : Int))]),rfl,rfl,(fun u => by kernel_rfl),fun u V hV hdq => ?_⟩
     refine ⟨#[(Pt p 0),(I6 (d : Int))],by kernel_rfl,fun W hM => ?_⟩
     exact hI x.ps p (hx.ok he0) he0 (hM.eqv (by kernel_rfl))
    ·
     refine ObM.o 6 (show (6 : Nat) ≠ 5 by decide) (fun σ' => oqN 6 rfl rfl (RowIs (itF d x.ps.rest)) rfl [52] (fun u => [u 5]) (fun u => by kernel_rfl) (fun u V hV hdq => ?_))
     have e5 : (OneIs (itF d x.ps.rest)) (u 5) V := hdq 5 (by kernel_rfl)
     obtain ⟨t5,cs5,q5,ht5,hz5⟩ := e5
     obtain ⟨a5,c5,rfl,hts5,hn5,hs5,hl5⟩ := ht5.form
     refine ⟨[(I6 t5.k),(N6 t5.n),(St t5.s),(.slice a5 t5.l.length c5),(.bool t5.o)],89,fun r => (Sl r 0 1 1),?_,fun g V' hV' hR => ?_⟩
     · rw [q5]; kernel_rfl
     exact ⟨t5,_,g,rfl,hR,ht5.le hV',hz5⟩
    intro u8 V8 s8 hV8 hdq8 hP8
    have k9 := k3.le hV8
    generalize u8 5 = z8 at hP8 ⊢
    obtain ⟨ps8,rfl,hb8,hy8⟩ := (hP8).at_
    have e6_8 : (RowIs (itF d x.ps.rest)) (u8 6) V8 := hdq8 6 (by decide)
    obtain ⟨t6_8,cs6_8,g6_8,q6_8,hg6_8,ht6_8,hz6_8⟩ := e6_8
    obtain ⟨a6_8,c6_8,rfl,hts6_8,hn6_8,hs6_8,hl6_8⟩ := ht6_8.form
    rw [q6_8]
    refine sx_appE x.r x.xs x.m ([(bK p [(St ps8.b),(I6 (ps8.at_ : Int)),(I6 ps8.e)] 245),(b0,.cells [(I6 0),(U6 0),(St []),S0,(.bool false)].toArray 89 (0,0)),(b1,.cells [(I6 4),(U6 0),(St []),(x.r.V x.m),(.bool true)].toArray 89 (0,0))] ++ σF) 89 87 5 64 1 (by kernel_rfl) hxr.ok (.tmp 48) (.tmp 53) rfl (by kernel_rfl) g6_8 0 1 [(I6 t6_8.k),(N6 t6_8.n),(St t6_8.s),(.slice a6_8 t6_8.l.length c6_8),(.bool t6_8.o)] (by kernel_rfl) (fun W hM => View.range_of hg6_8 hM.view) rfl (List.all_eq_true.1 (by kernel_rfl)) (by decide) (by unfold maxLen; omega) (by omega) (by kernel_rfl) (by kernel_rfl) (by kernel_rfl) (by kernel_rfl) (by kernel_rfl) (fun r10 hr10 => ?_)
    refine zq 1 ?_
    refine sx_sR 2 b1 3 (x.m + 1) 5 r10 (x.xs ++ [(I6 t6_8.k),(N6 t6_8.n),(St t6_8.s),(.slice a6_8 t6_8.l.length c6_8),(.bool t6_8.o)]) hr10 [(I6 4),(U6 0),(St []),(x.r.V x.m),(.bool true)] 89 87 _ _ rfl (by kernel_rfl) (by kernel_rfl) (by kernel_rfl) (fun a c => by kernel_rfl) (by kernel_rfl) rfl (by kernel_rfl) ?_
    refine zn ?_
    refine ⟨⟨r10,(x.xs ++ [(I6 t6_8.k),(N6 t6_8.n),(St t6_8.s),(.slice a6_8 t6_8.l.length c6_8),(.bool t6_8.o)]),x.m + 1,x.L ++ [(t6_8,[(I6 t6_8.k),(N6 t6_8.n),(St t6_8.s),(.slice a6_8 t6_8.l.length c6_8),(.bool t6_8.o)])],ps8,V8⟩,?_,?_,look_zip _ _ (by kernel_rfl),fun _ h => h.eqv (by kernel_rfl)⟩
    · exact ⟨(View.le_trans (View.le_trans hxl hV2) hV8),RwR.snoc k9 ht6_8 hr10,by show x.m + 1 ≤ 1000; omega,hx.step (itF_len d) he0 (openG_step (by omega) h1) hb8 hy8 hz6_8⟩
    · show 1001 - (x.m + 1) < 1001 - x.m; omega
 ·
  have h0d := beq_eq_false_iff_ne.1 h0
  refine zq 6 (zn (sx_F (sx_exit (zs (zr ?_)))))
  refine sx_fzM x.r x.xs 5 x.m ([(bK p [(St x.ps.b),(I6 (x.ps.at_ : Int)),(I6 x.ps.e)] 245),(b0,.cells [(I6 0),(U6 0),(St []),S0,(.bool false)].toArray 89 (0,0)),(b1,.cells [(I6 4),(U6 0),(St []),(x.r.V x.m),(.bool true)].toArray 89 (0,0))] ++ σF) 89 (by kernel_rfl) hxr.ok (fun a11 c11 V11 hV11 hR11 hE11 => ?_)
  rw [hE11]
  have k12 := hxr.le hV11
  refine sx_B [3] [(b1,5)] (sx_S 1 b0 (zn (sx_ret ?_)))
  refine sx_ret_any [.cell 6 89] [(.agg #[(I6 4),(U6 0),(St []),(.slice a11 x.m c11),(.bool true)])] rfl ⟨(retK' 1 b0 5),trivial⟩ (fun W' hM => ?_)
  have hT2 := k12.arr c11 hR11 (View.le_refl _) (by unfold R47; omega) true
  refine retM_at 0 3 (bK p [(St x.ps.b),(I6 (x.ps.at_ : Int)),(I6 x.ps.e)] 245) hM (View.le_trans hxl hV11) ?_
  exact lp_none (ps' := x.ps) (hx.no (by simpa using h0)) rfl hT2 hx.b (by simpa using h0)
end Go.Proofs.YtcdjakemdlinhaaGreatDoor.Sx
