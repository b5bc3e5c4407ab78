/-
  Several texts in one: Asb7 Sx30 Irx Asr Asb8 Mxd Ps3 Ps4.
  Conditions: named at each.
-/
import Derived.Test.YtcdjakemdlinhaaGreatDoorG07
set_option maxHeartbeats 16000000
set_option linter.unusedSimpArgs false
set_option linter.unusedVariables false
set_option linter.unusedSectionVars false
namespace Go.Proofs.YtcdjakemdlinhaaGreatDoor.Sx
open Go.ChangeShapes Go.WideShapes Go.ChangeAt Go.RowKit Go.Deep
theorem aF6 (eA : Addr) (t : Itm.Tr) (aT : Option Addr) (cT : Nat) (w : World) {U : View} (hU : See U w) (h : (t.k == 0) = true) (hn : t.n < W64) : CP 186 #[.agg #[.int .i64 t.k, .int .u64 t.n, .string (B t.s), .slice aT t.l.length cT, .bool t.o]] w (Ret (.tuple #[.int .i64 ((min t.n 65536 : Nat) : Int), .nilIface]) w) := by
 have h' : (t.k != 0) = false := by simpa using h
 have hw : IntKind.i64.wrap (if 65536 < (t.n : Int) then 65536 else (t.n : Int)) = ((min t.n 65536 : Nat) : Int) := by
  rw [IntWalk.i64_in _ (by split <;> omega)]
  split <;> omega
 refine eG 12 Tryz.func186 hU ?_
 refine zs (zr (cJ (fun b0 => (zq 2 (zn (zs (zB [0,1,0] [(b0,1)] (zn (eS (t.k != 0) h' ?_)))))))))
 refine zk (zB [0,1,0,0] [(b0,1)] (eE 11 (I6 (IntKind.i64.wrap (if 65536 < (t.n : Int) then 65536 else (t.n : Int)))) (L6 (min t.n 65536)) (congrArg (Value.int .i64) hw) ?_))
 refine zq 2 (zn (aA (aH [2,3] [(L6 (min t.n 65536)),.nilIface] (fun W' hM => ?_))))
 exact ⟨rfl,hM.below⟩
theorem aF7 (eA : Addr) (t : Itm.Tr) (aT : Option Addr) (cT : Nat) (w : World) {U : View} (hU : See U w) (hE : EF U eA) (h : (t.k == 0) = false) : CP 186 #[.agg #[.int .i64 t.k, .int .u64 t.n, .string (B t.s), .slice aT t.l.length cT, .bool t.o]] w (Ret (.tuple #[.int .i64 0, (Er.wrap [110, 117, 109, 98, 101, 114] .leaf).V eA]) w) := by
 have h' : (t.k != 0) = true := by simpa using h
 refine eG 12 Tryz.func186 hU ?_
 refine zs (zr (cJ (fun b0 => (zq 2 (zn (zs (zB [0,1,0] [(b0,1)] (zn (gP (t.k != 0) h' ?_)))))))))
 refine zs (zr (dL (fun W hM => pI eA [110,117,109,98,101,114] W hM.view hE) (zq 2 (zn (aA (aH [2,3] [(I6 0),(Er.V eA (Er.wrap [110,117,109,98,101,114] .leaf))] (fun W' hM => ?_)))))))
 exact ⟨rfl,hM.below⟩
theorem iF (eA : Addr) (t : Itm.Tr) (aT : Option Addr) (cT : Nat) (w : World) {U : View} (hU : See U w) (hE : EF U eA) (hts : fG U aT t.l) (h47 : t.l.length ≤ 1000000) : CP 185 #[.agg #[.int .i64 t.k, .int .u64 t.n, .string (B t.s), .slice aT t.l.length cT, .bool t.o]] w (rO w U (aDu InR 1 eA (aEC t))) := by
 refine eG 32 Tryz.func185 hU ?_
 refine zs (zr (cJ (fun b0 => (zq 2 (zn (zQ 1 (zn (zs (zB [0,1,0,0] [(b0,1)] (zn (aB (gX (α := Gp Int) (fun x => [2,3,4,10,11,12].zip [S0,.nilIface,(x.r.V x.i),(.slice aT t.l.length cT),(L6 t.l.length),(L6 x.i)]) (fun x => x.V) (fun x => ([(bK b0 (tC t aT cT) 89)] ++ x.r.B 3 x.xs)) (fun x => x.i ≤ t.l.length ∧ View.le U x.V ∧ RwR InR 1 x.V x.r x.xs x.i x.L ∧ aD1 aEE (t.l.take x.i) = some (x.L.map Prod.fst)) (fun x => t.l.length - x.i) ⟨0,Rw.nil,[],[],U⟩ ?_ ?_ (hm := fun _ h => h.eqv (Eq.trans kR (List.append_nil ([(bK b0 (tC t aT cT) 89)] : aF)).symm))))))))))))))
 · exact ⟨Nat.zero_le _,View.le_refl _,RwR.nil,rfl⟩
 intro x hx
 obtain ⟨hxi,hxl,hxr,hxp⟩ := hx
 refine zQ 1 (zn (zs (cD (decide ((x.i : Int) < (t.l.length : Int))) (fun h0 => ?_) (fun h0 => ?_))))
 ·
  have h0d := of_decide_eq_true h0
  refine zk (zs (aB (zs (zr ?_))))
  obtain ⟨y1,hy1⟩ : ∃ y,(t.l)[x.i]? = some y := ⟨(t.l)[x.i]'oW,List.getElem?_eq_getElem _⟩
  obtain ⟨b1,f1,cs1,rfl,hU1,ht1⟩ := (hts.le hxl).at_ x.i y1 hy1
  obtain ⟨a1,c1,rfl,hts1,hn1,hs1,hl1⟩ := ht1.form
  refine cH (Pt b1 (f1 + x.i * 5)) (rIx 89 rfl b1 f1 t.l.length cT x.i 5) ?_
  refine zU b1 (f1 + x.i * 5) (tC y1 a1 c1) hU1 89 (.tmp 14) _ Tryz.underlying89 rfl ?_
  refine dN 1 (fun b2 => ?_)
  refine aY 1 b2 (zn (zB [2] [(b2,5)] ?_))
  rcases Bool.eq_false_or_eq_true (y1.k == 0) with h1 | h1
  ·
   have h1d := eq_of_beq h1
   refine dA 186 #[(tV y1 a1 c1)] (.tuple #[(L6 (min y1.n 65536)),.nilIface]) (fun W hM => aF6 eA y1 _ _ W hM.view h1 (by obtain ⟨_,_,_,_,h9,_⟩ := (ht1).form; exact h9)) ?_
   refine zq 5 (zn (zs (zQ 1 (cH (.bool false) (jV .neq false _ _ _ rfl (Or.inr ⟨rfl,rfl⟩) kR kR) ?_))))
   refine zn (dE (zk (zr (zq 2 (dN 2 (fun b3 => ?_))))))
   refine tT 3 3 48 8 1 1 hxr.ok (fun W hM => cW hM 2 b3 [(L6 (min y1.n 65536))] 3 kR) rfl (List.all_eq_true.1 kR) (by decide) (fun r4 hr4 => ?_)
   refine zq 1 (zn (zr (zq 1 (eV 30 ((x.i : Int) + 1) (zq 1 (zn ?_))))))
   refine nx ⟨x.i + 1,r4,(x.xs ++ [(L6 (min y1.n 65536))]),x.L ++ [(((min y1.n 65536 : Nat) : Int),[(L6 (min y1.n 65536))])],x.V⟩ ?_ ?_ (d := fun _ h => Mem.sub (List.Sublist.append (List.sublist_append_left _ _) (List.Sublist.refl _)) (h.eqv (show _ = ((([(bK b0 [(I6 t.k),(N6 t.n),(St t.s),(Sl b1 f1 t.l.length cT),(.bool t.o)] 89)] : aF) ++ ([(bK b2 (tC y1 a1 c1) 89),(bK b3 [(L6 (min y1.n 65536))] 3)] : aF)) ++ (r4.B 3 (x.xs ++ [(L6 (min y1.n 65536))]))) from by kernel_rfl)))
   · exact ⟨by show x.i + 1 ≤ _; omega,hxl,RwR.snoc hxr rfl hr4,by rw [List.map_append]; exact sQ hxp hy1 (lN h1)⟩
   · show t.l.length - (x.i + 1) < t.l.length - x.i; omega
  ·
   have h1d := beq_eq_false_iff_ne.1 h1
   refine dA 186 #[(tV y1 a1 c1)] (.tuple #[(I6 0),(Er.V eA (Er.wrap [110,117,109,98,101,114] .leaf))]) (fun W hM => aF7 eA y1 _ _ W hM.view (hE.le hxl) h1) ?_
   refine zq 5 (zn (zs (zQ 1 (cH (.bool true) (qU .neq true _ _ _ _ rfl (Or.inr ⟨rfl,rfl⟩) kR eA (Er.wrap [110,117,109,98,101,114] .leaf) kR kR) ?_))))
   refine zn (dF (zQ 5 (zn (aA (aH [2,3] [S0,(.iface 281 (.agg #[(St [116,97,114,103,101,116,115]),(Er.V eA (Er.wrap [110,117,109,98,101,114] .leaf))]))] (fun W' hM => ?_))))))
   have hno : aEE y1 = none := sO h1
   have hz : aEC t = none := pT (List.mem_of_getElem? hy1) hno
   rw [hz]
   exact cF hM hxl ⟨(.wrap [116,97,114,103,101,116,115] (Er.wrap [110,117,109,98,101,114] .leaf)),rfl⟩
 ·
  have h0d := of_decide_eq_false h0
  refine aU (zQ 3 (zn (aA (aH [2,3] [(x.r.V x.i),.nilIface] (fun W' hM => ?_)))))
  refine aCT (by decide) (hM.eqv (show _ = ([(bK b0 (tC t aT cT) 89)] : aF) ++ x.r.B 3 x.xs from by kernel_rfl)) hxr hxl (fun v => .tuple #[v,.nilIface]) (by unfold R47; omega) fun a c V' hl' hA hc hm => ?_
  rw [List.take_of_length_le oW] at hxp
  unfold aEC
  rw [hxp,hm]
  exact ⟨a,c,rfl,hA,by omega⟩
theorem jW (eA : Addr) (t : Itm.Tr) (aT : Option Addr) (cT : Nat) (w : World) {U : View} (hU : See U w) (hE : EF U eA) (hts : fG U aT t.l) (h47 : t.l.length ≤ 1000000) : CP 188 #[.agg #[.int .i64 t.k, .int .u64 t.n, .string (B t.s), .slice aT t.l.length cT, .bool t.o]] w (rO w U (aDu PaR 6 eA (jA t))) := by
 refine eG 45 Tryz.func188 hU ?_
 refine zs (zr (cJ (fun b0 => (zq 2 (zn (zQ 1 (zn (zs (zB [0,1,0,0] [(b0,1)] (zn (aB (gX (α := Gp Pa) (fun x => [2,3,4,10,11,12].zip [S0,.nilIface,(x.r.V x.i),(.slice aT t.l.length cT),(L6 t.l.length),(L6 x.i)]) (fun x => x.V) (fun x => ([(bK b0 (tC t aT cT) 89)] ++ x.r.B 92 x.xs)) (fun x => x.i ≤ t.l.length ∧ View.le U x.V ∧ RwR PaR 6 x.V x.r x.xs x.i x.L ∧ aD1 aDQ (t.l.take x.i) = some (x.L.map Prod.fst)) (fun x => t.l.length - x.i) ⟨0,Rw.nil,[],[],U⟩ ?_ ?_ (hm := fun _ h => h.eqv (Eq.trans kR (List.append_nil ([(bK b0 (tC t aT cT) 89)] : aF)).symm))))))))))))))
 · exact ⟨Nat.zero_le _,View.le_refl _,RwR.nil,rfl⟩
 intro x hx
 obtain ⟨hxi,hxl,hxr,hxp⟩ := hx
 refine zQ 1 (zn (zs (cD (decide ((x.i : Int) < (t.l.length : Int))) (fun h0 => ?_) (fun h0 => ?_))))
 ·
  have h0d := of_decide_eq_true h0
  refine zk (zs (aB (zs (zr ?_))))
  obtain ⟨y1,hy1⟩ : ∃ y,(t.l)[x.i]? = some y := ⟨(t.l)[x.i]'oW,List.getElem?_eq_getElem _⟩
  obtain ⟨b1,f1,cs1,rfl,hU1,ht1⟩ := (hts.le hxl).at_ x.i y1 hy1
  obtain ⟨a1,c1,rfl,hts1,hn1,hs1,hl1⟩ := ht1.form
  refine cH (Pt b1 (f1 + x.i * 5)) (rIx 89 rfl b1 f1 t.l.length cT x.i 5) ?_
  refine zU b1 (f1 + x.i * 5) (tC y1 a1 c1) hU1 89 (.tmp 14) _ Tryz.underlying89 rfl ?_
  refine dN 1 (fun b2 => ?_)
  refine aY 1 b2 (zn (zs (zB [0,2,0,0] [(b2,1)] (zn (cD ((y1.l.length : Int) != 2) (fun h1 => ?_) (fun h1 => ?_))))))
  ·
   have h1d := bne_iff_ne.1 h1
   refine zs (zr (dL (fun W hM => pI eA [112,97,105,114] W hM.view (hE.le hxl)) (zq 2 (zn (aA (aH [2,3] [S0,(Er.V eA (Er.wrap [112,97,105,114] .leaf))] (fun W' hM => ?_)))))))
   have hno : aDQ y1 = none := aIN oW
   have hz : jA t = none := pT (List.mem_of_getElem? hy1) hno
   rw [hz]
   exact cF hM hxl ⟨(Er.wrap [112,97,105,114] .leaf),rfl⟩
  ·
   have h1d := bne_eq_false_iff_eq.1 h1
   refine zk (zB [0,2] [(b2,1)] ?_)
   obtain ⟨y3,hy3⟩ : ∃ y,(y1.l)[0]? = some y := ⟨(y1.l)[0]'oW,List.getElem?_eq_getElem _⟩
   obtain ⟨b3,f3,cs3,rfl,hU3,ht3⟩ := hts1.at_ 0 y3 hy3
   obtain ⟨a3,c3,rfl,hts3,hn3,hs3,hl3⟩ := ht3.form
   refine cH (Pt b3 (f3 + 0 * 5)) (rIx 89 rfl b3 f3 y1.l.length c1 0 5) ?_
   refine zU b3 (f3 + 0 * 5) (tC y3 a3 c3) hU3 89 (.tmp 24) _ Tryz.underlying89 rfl ?_
   rcases Bool.eq_false_or_eq_true (y3.k == 0) with h2 | h2
   ·
    have h2d := eq_of_beq h2
    refine dA 186 #[(tV y3 a3 c3)] (.tuple #[(L6 (min y3.n 65536)),.nilIface]) (fun W hM => aF6 eA y3 _ _ W hM.view h2 (by obtain ⟨_,_,_,_,h9,_⟩ := (ht3).form; exact h9)) ?_
    refine zq 5 (zn (zs (zQ 1 (cH (.bool false) (jV .neq false _ _ _ rfl (Or.inr ⟨rfl,rfl⟩) kR kR) ?_))))
    refine zn (dE (zk (zr (cU [0,0,0,2] [(b2,1)] ?_))))
    obtain ⟨y4,hy4⟩ : ∃ y,(y1.l)[1]? = some y := ⟨(y1.l)[1]'oW,List.getElem?_eq_getElem _⟩
    obtain ⟨b4,f4,cs4,e4,hU4,ht4⟩ := hts1.at_ 1 y4 hy4
    obtain ⟨a4,c4,rfl,hts4,hn4,hs4,hl4⟩ := ht4.form
    cases e4
    refine cH (Pt b3 (f3 + 1 * 5)) (rIx 89 rfl b3 f3 y1.l.length c1 1 5) ?_
    refine zU b3 (f3 + 1 * 5) (tC y4 a4 c4) hU4 89 (.tmp 38) _ Tryz.underlying89 rfl ?_
    refine zq 1 (dN 2 (fun b5 => ?_))
    refine tT 3 92 93 72 1 1 hxr.ok (fun W hM => cW hM 2 b5 [(L6 (min y3.n 65536)),(I6 y4.k),(N6 y4.n),(St y4.s),(.slice a4 y4.l.length c4),(.bool y4.o)] 92 kR) rfl (List.all_eq_true.1 kR) (by decide) (fun r6 hr6 => ?_)
    refine zq 1 (zn (zr (zq 1 (eV 43 ((x.i : Int) + 1) (zq 1 (zn ?_))))))
    refine nx ⟨x.i + 1,r6,(x.xs ++ [(L6 (min y3.n 65536)),(I6 y4.k),(N6 y4.n),(St y4.s),(.slice a4 y4.l.length c4),(.bool y4.o)]),x.L ++ [(⟨((min y3.n 65536 : Nat) : Int),y4⟩,[(L6 (min y3.n 65536)),(I6 y4.k),(N6 y4.n),(St y4.s),(.slice a4 y4.l.length c4),(.bool y4.o)])],x.V⟩ ?_ ?_ (d := fun _ h => Mem.sub (List.Sublist.append (List.sublist_append_left _ _) (List.Sublist.refl _)) (h.eqv (show _ = ((([(bK b0 [(I6 t.k),(N6 t.n),(St t.s),(Sl b1 f1 t.l.length cT),(.bool t.o)] 89)] : aF) ++ ([(bK b2 [(I6 y1.k),(N6 y1.n),(St y1.s),(Sl b3 f3 y1.l.length c1),(.bool y1.o)] 89),(bK b5 [(L6 (min y3.n 65536)),(I6 y4.k),(N6 y4.n),(St y4.s),(.slice a4 y4.l.length c4),(.bool y4.o)] 92)] : aF)) ++ (r6.B 92 (x.xs ++ [(L6 (min y3.n 65536)),(I6 y4.k),(N6 y4.n),(St y4.s),(.slice a4 y4.l.length c4),(.bool y4.o)]))) from by kernel_rfl)))
    · exact ⟨by show x.i + 1 ≤ _; omega,hxl,RwR.snoc hxr ⟨_,rfl,ht4⟩ hr6,by rw [List.map_append]; exact sQ hxp hy1 (by rw [aDP oW hy3 hy4,lN h2])⟩
    · show t.l.length - (x.i + 1) < t.l.length - x.i; omega
   ·
    have h2d := beq_eq_false_iff_ne.1 h2
    refine dA 186 #[(tV y3 a3 c3)] (.tuple #[(I6 0),(Er.V eA (Er.wrap [110,117,109,98,101,114] .leaf))]) (fun W hM => aF7 eA y3 _ _ W hM.view (hE.le hxl) h2) ?_
    refine zq 5 (zn (zs (zQ 1 (cH (.bool true) (qU .neq true _ _ _ _ rfl (Or.inr ⟨rfl,rfl⟩) kR eA (Er.wrap [110,117,109,98,101,114] .leaf) kR kR) ?_))))
    refine zn (dF (zQ 5 (zn (aA (aH [2,3] [S0,(.iface 281 (.agg #[(St [112,97,105,114]),(Er.V eA (Er.wrap [110,117,109,98,101,114] .leaf))]))] (fun W' hM => ?_))))))
    have hno : aDQ y1 = none := (by obtain ⟨v9,hv9⟩ : ∃ v,y1.l[1]? = some v := ⟨_,List.getElem?_eq_getElem oW⟩; rw [aDP oW hy3 hv9,sO h2])
    have hz : jA t = none := pT (List.mem_of_getElem? hy1) hno
    rw [hz]
    exact cF hM hxl ⟨(.wrap [112,97,105,114] (Er.wrap [110,117,109,98,101,114] .leaf)),rfl⟩
 ·
  have h0d := of_decide_eq_false h0
  refine aU (zQ 3 (zn (aA (aH [2,3] [(x.r.V x.i),.nilIface] (fun W' hM => ?_)))))
  refine aCT (by decide) (hM.eqv (show _ = ([(bK b0 (tC t aT cT) 89)] : aF) ++ x.r.B 92 x.xs from by kernel_rfl)) hxr hxl (fun v => .tuple #[v,.nilIface]) (by unfold R47; omega) fun a c V' hl' hA hc hm => ?_
  rw [List.take_of_length_le oW] at hxp
  unfold jA
  rw [hxp,hm]
  exact ⟨a,c,rfl,hA,by omega⟩
theorem iG (eA : Addr) (t : Itm.Tr) (aT : Option Addr) (cT : Nat) (w : World) {U : View} (hU : See U w) (hE : EF U eA) (hts : fG U aT t.l) (h47 : t.l.length ≤ 1000000) (hsm : ∀ y ∈ t.l, y.l.length ≤ 1000000) : CP 189 #[.agg #[.int .i64 t.k, .int .u64 t.n, .string (B t.s), .slice aT t.l.length cT, .bool t.o]] w (rO w U (aDu RlR 1 eA (aIw t))) := by
 refine eG 32 Tryz.func189 hU ?_
 refine zs (zr (cJ (fun b0 => (zq 2 (zn (zQ 1 (zn (zs (zB [0,1,0,0] [(b0,1)] (zn (aB (gX (α := Gp (List Pa)) (fun x => [2,3,4,10,11,12].zip [S0,.nilIface,(x.r.V x.i),(.slice aT t.l.length cT),(L6 t.l.length),(L6 x.i)]) (fun x => x.V) (fun x => ([(bK b0 (tC t aT cT) 89)] ++ x.r.B 93 x.xs)) (fun x => x.i ≤ t.l.length ∧ View.le U x.V ∧ RwR RlR 1 x.V x.r x.xs x.i x.L ∧ aD1 jA (t.l.take x.i) = some (x.L.map Prod.fst)) (fun x => t.l.length - x.i) ⟨0,Rw.nil,[],[],U⟩ ?_ ?_ (hm := fun _ h => h.eqv (Eq.trans kR (List.append_nil ([(bK b0 (tC t aT cT) 89)] : aF)).symm))))))))))))))
 · exact ⟨Nat.zero_le _,View.le_refl _,RwR.nil,rfl⟩
 intro x hx
 obtain ⟨hxi,hxl,hxr,hxp⟩ := hx
 refine zQ 1 (zn (zs (cD (decide ((x.i : Int) < (t.l.length : Int))) (fun h0 => ?_) (fun h0 => ?_))))
 ·
  have h0d := of_decide_eq_true h0
  refine zk (zs (aB (zs (zr ?_))))
  obtain ⟨y1,hy1⟩ : ∃ y,(t.l)[x.i]? = some y := ⟨(t.l)[x.i]'oW,List.getElem?_eq_getElem _⟩
  obtain ⟨b1,f1,cs1,rfl,hU1,ht1⟩ := (hts.le hxl).at_ x.i y1 hy1
  obtain ⟨a1,c1,rfl,hts1,hn1,hs1,hl1⟩ := ht1.form
  refine cH (Pt b1 (f1 + x.i * 5)) (rIx 89 rfl b1 f1 t.l.length cT x.i 5) ?_
  refine zU b1 (f1 + x.i * 5) (tC y1 a1 c1) hU1 89 (.tmp 14) _ Tryz.underlying89 rfl ?_
  refine dN 1 (fun b2 => ?_)
  refine aY 1 b2 (zn (zB [2] [(b2,5)] ?_))
  rcases Bool.eq_false_or_eq_true ((jA y1).isSome) with h1 | h1
  ·
   refine aAn 188 #[(tV y1 a1 c1)] (aDu PaR 6 eA (jA y1)) (fun W hM => jW eA y1 _ _ W hM.view (hE.le hxl) hts1 (hsm y1 (List.mem_of_getElem? hy1))) (fun v3 V3 hV3 hP3 => ?_)
   have k7 := hxr.le hV3
   obtain ⟨l3,a3,c3,hq3,rfl,hls3,hc3⟩ := (hP3).some h1
   refine zq 5 (zn (zs (zQ 1 (cH (.bool false) (jV .neq false _ _ _ rfl (Or.inr ⟨rfl,rfl⟩) kR kR) ?_))))
   refine zn (dE (zk (zr (zq 2 (dN 2 (fun b8 => ?_))))))
   refine tT 3 93 94 24 1 1 hxr.ok (fun W hM => cW hM 2 b8 [(.slice a3 l3.length c3)] 93 kR) rfl (List.all_eq_true.1 kR) (by decide) (fun r9 hr9 => ?_)
   refine zq 1 (zn (zr (zq 1 (eV 30 ((x.i : Int) + 1) (zq 1 (zn ?_))))))
   refine nx ⟨x.i + 1,r9,(x.xs ++ [(.slice a3 l3.length c3)]),x.L ++ [(l3,[(.slice a3 l3.length c3)])],V3⟩ ?_ ?_ (d := fun _ h => Mem.sub (List.Sublist.append (List.sublist_append_left _ _) (List.Sublist.refl _)) (h.eqv (show _ = ((([(bK b0 [(I6 t.k),(N6 t.n),(St t.s),(Sl b1 f1 t.l.length cT),(.bool t.o)] 89)] : aF) ++ ([(bK b2 (tC y1 a1 c1) 89),(bK b8 [(.slice a3 l3.length c3)] 93)] : aF)) ++ (r9.B 93 (x.xs ++ [(.slice a3 l3.length c3)]))) from by kernel_rfl)))
   · exact ⟨by show x.i + 1 ≤ _; omega,(View.le_trans hxl hV3),RwR.snoc k7 ⟨_,_,rfl,hls3⟩ hr9,by rw [List.map_append]; exact sQ hxp hy1 hq3⟩
   · show t.l.length - (x.i + 1) < t.l.length - x.i; omega
  ·
   refine aAn 188 #[(tV y1 a1 c1)] (aDu PaR 6 eA (jA y1)) (fun W hM => jW eA y1 _ _ W hM.view (hE.le hxl) hts1 (hsm y1 (List.mem_of_getElem? hy1))) (fun v10 V10 hV10 hP10 => ?_)
   obtain ⟨hq10,e10,rfl⟩ := (hP10).none h1
   refine zq 5 (zn (zs (zQ 1 (cH (.bool true) (qU .neq true _ _ _ _ rfl (Or.inr ⟨rfl,rfl⟩) kR eA e10 kR kR) ?_))))
   refine zn (dF (zQ 1 ?_))
   obtain ⟨ue15,ve15,he15⟩ := Er.form eA e10
   rw [he15]
   refine zq 1 (zq 3 (zn (aA (aH [2,3] [S0,(.iface 281 (.agg #[(St [114,101,115,117,108,116,115]),(.iface ue15 ve15)]))] (fun W' hM => ?_)))))
   have hno : jA y1 = none := hq10
   have hz : aIw t = none := pT (List.mem_of_getElem? hy1) hno
   rw [hz]
   exact cF hM (View.le_trans hxl hV10) ⟨(.wrap [114,101,115,117,108,116,115] e10),(by rw [show (Er.wrap [114,101,115,117,108,116,115] e10).V eA = .iface 281 (.agg #[.string (B [114,101,115,117,108,116,115]),Er.V eA e10]) from rfl,he15]; try rfl)⟩
 ·
  have h0d := of_decide_eq_false h0
  refine aU (zQ 3 (zn (aA (aH [2,3] [(x.r.V x.i),.nilIface] (fun W' hM => ?_)))))
  refine aCT (by decide) (hM.eqv (show _ = ([(bK b0 (tC t aT cT) 89)] : aF) ++ x.r.B 93 x.xs from by kernel_rfl)) hxr hxl (fun v => .tuple #[v,.nilIface]) (by unfold R47; omega) fun a c V' hl' hA hc hm => ?_
  rw [List.take_of_length_le oW] at hxp
  unfold aIw
  rw [hxp,hm]
  exact ⟨a,c,rfl,hA,by omega⟩
section
variable {P : Program} {n : Nat} {W0 : Cx} {Q : XQ} {s : cB} {U : View} {σ : aF} {ops : Array Oper} {l : List Oper} {o : Oper}
theorem aA1 (t e : TypeId) (x ix : Operand) (ho : o.op = .indexAddr t x ix) (b f m i sz : Nat) (k : IntKind) (hx : evS s x = some (.pointer (some ⟨b, f, none⟩))) (hi : evS s ix = some (.int k (i : Int))) (hlt : i < m)
  (hu : P.underlying t = some (.array m e)) (hs : (P.info? e).map (·.size) = some sz) (W : World) : (execOp (ev s) o).run P W = .ok (.value (.pointer (some ⟨b, f + i * sz, none⟩))) W := by
 have hz : (sizeOf e).run P W = .ok sz W := by
  cases hq : P.info? e with
  | none => rw [hq] at hs; cases hs
  | some inf =>
   rw [hq] at hs
   simp only [Option.map_some, Option.some.injEq] at hs
   simp [sizeOf, typeInfo, hq, hs]
 unfold execOp
 simp only [ho, eF hx, eF hi, Instr.indexAt, Instr.sureAddr, asIntOf, Sem.run_bind, Sem.run_pure, Result.andThen_ok, run_underlying hu W]
 have h1 : (0 : Int) ≤ (i : Int) ∧ (i : Int) < (m : Int) := ⟨by omega, by omega⟩
 rw [if_pos h1]
 simp only [Sem.run_bind, hz, Result.andThen_ok, Sem.run_pure, Int.toNat_natCast, Addr.add_mid]
theorem oqR {ds : List Nat} {vs : List Sq} (i : Nat) {o : Oper} (hi : ops[i]? = some o) (v : Value) (hvi : vs[i]? = some (.val v)) (hk : ∀ u, known (jZ ops ds vs u i ++ aV s ds) o = true)
  (hrun : ∀ (u : Nat → Value) (W : World), (execOp (ev (jZ ops ds vs u i ++ aV s ds)) o).run P W = .ok (.value v) W) (hw : ∀ u, cZ ops (jZ ops ds vs u i ++ aV s ds) o = some true) : Oq P n W0 U σ ops ds vs s i :=
 Oq.op i hi _ hvi fun u V _ _ => ⟨hw u, fun a W ha hM Q K hK => by
  unfold Oper.wp
  rw [fO ha (hk u), hrun u]
  exact hK v W hM rfl (Below.refl _ _)⟩
theorem wR {ds ks : List Nat} {tv vs : List Sq} {i : Nat} {v : Value} (hrun : ∀ (u : Nat → Value) (W : World), (execOp (ev (jZ ops ds vs u i ++ aV s ds)) (mY ops i)).run P W = .ok (.value v) W) (hi : ops[i]? = some (mY ops i) := by rfl) (hk : ∀ u, known (jZ ops ds vs u i ++ aV s ds) (mY ops i) = true := by intro u; kernel_rfl)
  (hw : ∀ u, cZ ops (jZ ops ds vs u i ++ aV s ds) (mY ops i) = some true := by intro u; kernel_rfl) : Oqw P n W0 U σ ops ds ks tv vs s i (.val v) :=
 fun _ hvi => oqR i hi v hvi hk hrun hw
end
section
variable {P : Program} {n : Nat} {W0 : Cx} {s : cB} {U : View} {σ : aF} {ops : Array Oper} {ds : List Nat} {vs : List Sp}
theorem aOz (i b f : Nat) (v : Value) (hU : U ⟨b, f, none⟩ = some v) (ty : TypeId) (x : Operand) {o : Oper} (hi : ops[i]? = some o) (ho : o.op = .load ty x) (hvi : vs[i]? = some (.val v)) (hx : evS (mH ops ds vs i ++ aV s ds) x = some (.pointer (some ⟨b, f, none⟩))) (d : TypeDesc) (hu : P.underlying ty = some d) (hrow : d.isRow = false)
  (hw : cZ ops (mH ops ds vs i ++ aV s ds) o = some true) : Ob P n W0 U σ ops ds vs s i :=
 Ob.op i hi _ hvi hw fun a W ha hM Q K hK => by
  have hc := hM.view _ _ hU
  have hagg : (isAgg ty).run P W = .ok false W := by
   unfold isAgg
   rw [Sem.run_bind, run_underlying hu W]
   cases d <;> simp_all
  have hl : (load ⟨b, f, none⟩).run P W = .ok v W := by
   simp [load, Sem.run, hc]
  unfold Oper.wp execOp
  simp only [ho, dZ ha hx, Instr.loadAt, Instr.sureAddr, Sem.run_bind, Sem.run_pure, Result.andThen_ok, loadVar, hagg]
  simp only [Bool.false_eq_true, if_false, hl, Result.andThen_ok]
  exact hK v W rfl hM (Below.refl _ _)
theorem vU1 {i : Nat} {v : Value} (b f : Nat) (hU : U ⟨b, f, none⟩ = some v) (ty : TypeId) (x : Operand) (d : TypeDesc) (hu : P.underlying ty = some d) (hrow : d.isRow = false) (hi : ops[i]? = some (mY ops i) := by rfl) (ho : (mY ops i).op = .load ty x := by rfl) (hx : evS (mH ops ds vs i ++ aV s ds) x = some (.pointer (some ⟨b, f, none⟩)) := by kernel_rfl)
  (hw : cZ ops (mH ops ds vs i ++ aV s ds) (mY ops i) = some true := by kernel_rfl) : Ow P n W0 U σ ops ds vs s i (.val v) :=
 fun hvi => aOz i b f v hU ty x hi ho hvi hx d hu hrow hw
end
theorem jU {α : Type} {l : List α} {x y : α} (h : l.length = 2) (h0 : l[0]? = some x) (h1 : l[1]? = some y) : l = [x, y] := by
 match l, h with
 | [a, b], _ =>
  simp only [List.getElem?_cons_zero, List.getElem?_cons_succ, Option.some.injEq] at h0 h1
  rw [h0, h1]
theorem aGQ {t : Itm.Tr} (h : t.k ≠ 4) : Itm.iR t = Itm.Nm.zero := by unfold Itm.iR; rw [if_neg h]
theorem aE0 {t x y : Itm.Tr} (hl : t.l = [x, y]) (h : x.k ≠ 0) : Itm.iR t = Itm.Nm.zero := by
 unfold Itm.iR
 rw [hl]
 split
 · exact if_neg h
 · rfl
theorem lL {t x y : Itm.Tr} (hk : t.k = 4) (hl : t.l = [x, y]) (h : x.k = 0) : Itm.iR t = Itm.aDI x y := by
 unfold Itm.iR
 rw [if_pos hk, hl]
 exact if_pos h
def rdE (t : Itm.Tr) : Ei := ⟨(Itm.iR t).s, (Itm.iR t).l, (Itm.iR t).n, (Itm.iR t).v⟩
theorem qV {t : Itm.Tr} {m : Itm.Nm} (h : Itm.iR t = m) : rdE t = ⟨m.s, m.l, m.n, m.v⟩ := by unfold rdE; rw [h]
theorem aEg (t : Itm.Tr) (cs : List Value) (w : World) {U : View} (hU : See U w) (h : TV U t cs) : CP 218 #[.agg cs.toArray] w (Ret (rdE t).V w) := by
 obtain ⟨a,c,rfl,hts,hn,hs,hl⟩ := h.form
 unfold R47 at hl
 refine eG 66 Tryz.func218 hU ?_
 refine zs (zr (cJ (fun b0 => (cJ (fun b1 => (zn (zs (zB [0,1,0,0] [(b0,1)] (aK 7 (t.k != 4) (fun h0 => ?_) (fun h0 => ?_))))))))))
 ·
  refine zq 13 (zn (dF (zQ 1 (aY 1 b1 (zn (aA (dU [2] [(b1,4)] [(.agg #[(I6 0),(St []),(U6 0),(U6 0)])] (fun W' hM => ?_))))))))
  refine ⟨?_,hM.below⟩
  rw [qV (aGQ (bne_iff_ne.1 h0))]
  rfl
 ·
  have h0d := bne_eq_false_iff_eq.1 h0
  refine cU [0,1,0,0,0,0] [(b0,1)] (aK 13 ((t.l.length : Int) != 2) (fun h1 => ?_) (fun h1 => ?_))
  ·
   have h1d := bne_iff_ne.1 h1
   refine zq 7 (zn (dF (zQ 1 (aY 1 b1 (zn (aA (dU [2] [(b1,4)] [(.agg #[(I6 0),(St []),(U6 0),(U6 0)])] (fun W' hM => ?_))))))))
   refine ⟨?_,hM.below⟩
   rw [qV (Itm.aIz (by have := h1; simp at this; omega))]
   rfl
  ·
   have h1d := bne_eq_false_iff_eq.1 h1
   refine cU [0,1] [(b0,1)] ?_
   obtain ⟨y2,hy2⟩ : ∃ y,(t.l)[0]? = some y := ⟨(t.l)[0]'oW,List.getElem?_eq_getElem _⟩
   obtain ⟨b2,f2,cs2,rfl,hU2,ht2⟩ := hts.at_ 0 y2 hy2
   obtain ⟨a2,c2,rfl,hts2,hn2,hs2,hl2⟩ := ht2.form
   refine cH (Pt b2 (f2 + 0 * 5)) (rIx 89 rfl b2 f2 t.l.length c 0 5) ?_
   refine zq 1 (zV b2 (f2 + 0 * 5 + 0) (I6 y2.k) (hU2 0 _ rfl) 3 (.tmp 17) _ Tryz.underlying3 rfl ?_)
   refine zq 2 (zn (cD (y2.k != 0) (fun h2 => ?_) (fun h2 => ?_)))
   ·
    have h2d := bne_iff_ne.1 h2
    refine zQ 1 (aY 1 b1 (zn (aA (dU [2] [(b1,4)] [(.agg #[(I6 0),(St []),(U6 0),(U6 0)])] (fun W' hM => ?_)))))
    refine ⟨?_,hM.below⟩
    have hl2 : t.l.length = 2 := by have := h1; simp at this; omega
    have hll := jU hl2 hy2 (List.getElem?_eq_getElem (by omega : 1 < t.l.length))
    rw [qV (aE0 hll (bne_iff_ne.1 h2))]
    rfl
   ·
    have h2d := bne_eq_false_iff_eq.1 h2
    refine zk (zB [0,1] [(b0,1)] ?_)
    obtain ⟨y3,hy3⟩ : ∃ y,(t.l)[1]? = some y := ⟨(t.l)[1]'oW,List.getElem?_eq_getElem _⟩
    obtain ⟨b3,f3,cs3,e3,hU3,ht3⟩ := hts.at_ 1 y3 hy3
    obtain ⟨a3,c3,rfl,hts3,hn3,hs3,hl3⟩ := ht3.form
    cases e3
    refine cH (Pt b2 (f2 + 1 * 5)) (rIx 89 rfl b2 f2 t.l.length c 1 5) ?_
    refine zU b2 (f2 + 1 * 5) (tC y3 a3 c3) hU3 89 (.tmp 24) _ Tryz.underlying89 rfl ?_
    refine cJ (fun b4 => (aY 2 b4 (zn (zs (aB (zB [0,1] [(b0,1)] ?_))))))
    obtain ⟨y5,hy5⟩ : ∃ y,(t.l)[0]? = some y := ⟨(t.l)[0]'oW,List.getElem?_eq_getElem _⟩
    obtain ⟨b5,f5,cs5,e5,hU5,ht5⟩ := hts.at_ 0 y5 hy5
    obtain ⟨a5,c5,rfl,hts5,hn5,hs5,hl5⟩ := ht5.form
    cases e5
    refine cH (Pt b2 (f2 + 0 * 5)) (rIx 89 rfl b2 f2 t.l.length c 0 5) ?_
    refine zq 1 (zV b2 (f2 + 0 * 5 + 1) (N6 y2.n) (hU2 1 _ rfl) 22 (.tmp 30) _ Tryz.underlying22 rfl ?_)
    refine zq 2 (aK 33 ((y2.n : Int) == 2) (fun h3 => ?_) (fun h3 => ?_))
    ·
     have h3d := eq_of_beq h3
     refine cU [0,3,0,0,0,0] [(b4,1)] (zn (cD ((y3.l.length : Int) == 2) (fun h4 => ?_) (fun h4 => ?_)))
     ·
      have h4d := eq_of_beq h4
      refine zs ?_
      obtain ⟨y6,hy6⟩ : ∃ y,(y3.l)[0]? = some y := ⟨(y3.l)[0]'oW,List.getElem?_eq_getElem _⟩
      obtain ⟨b6,f6,cs6,rfl,hU6,ht6⟩ := hts3.at_ 0 y6 hy6
      obtain ⟨a6,c6,rfl,hts6,hn6,hs6,hl6⟩ := ht6.form
      obtain ⟨y7,hy7⟩ : ∃ y,(y3.l)[1]? = some y := ⟨(y3.l)[1]'oW,List.getElem?_eq_getElem _⟩
      obtain ⟨b7,f7,cs7,e7,hU7,ht7⟩ := hts3.at_ 1 y7 hy7
      obtain ⟨a7,c7,rfl,hts7,hn7,hs7,hl7⟩ := ht7.form
      cases e7
      refine gU 4 [0,5,1,0,1,0,5,1,0,1] [(b4,1),(b4,1)] [.val (Pt b6 (f6 + 0 * 5)),.val (N6 y6.n),.val (Pt b6 (f6 + 1 * 5)),.val (N6 y7.n)] ⟨?_,?_,?_,?_,trivial⟩ ?_
      · exact vR (rIx 89 rfl b6 f6 y3.l.length c3 0 5)
      · exact vU1 b6 (f6 + 0 * 5 + 1) (hU6 1 _ rfl) 22 _ _ Tryz.underlying22 rfl
      · exact vR (rIx 89 rfl b6 f6 y3.l.length c3 1 5)
      · exact vU1 b6 (f6 + 1 * 5 + 1) (hU7 1 _ rfl) 22 _ _ Tryz.underlying22 rfl
      refine zq 1 (aY 1 b1 (zn (aA (dU [2] [(b1,4)] [(.agg #[(I6 2),(St []),(N6 y6.n),(N6 y7.n)])] (fun W' hM => ?_)))))
      refine ⟨?_,hM.below⟩
      have hl2 : t.l.length = 2 := by have := h1; simp at this; omega
      have hll := jU hl2 hy2 hy3
      have hry := lL (bne_eq_false_iff_eq.1 h0) hll (bne_eq_false_iff_eq.1 h2)
      rw [qV (hry.trans (Itm.aIy (jU (by have := h4; simp at this; omega) hy6 hy7) (by have := h3; simp at this; omega)))]
      rfl
     ·
      have h4d := beq_eq_false_iff_ne.1 h4
      refine zB [0,1] [(b0,1)] ?_
      obtain ⟨y8,hy8⟩ : ∃ y,(t.l)[0]? = some y := ⟨(t.l)[0]'oW,List.getElem?_eq_getElem _⟩
      obtain ⟨b8,f8,cs8,e8,hU8,ht8⟩ := hts.at_ 0 y8 hy8
      obtain ⟨a8,c8,rfl,hts8,hn8,hs8,hl8⟩ := ht8.form
      cases e8
      refine cH (Pt b2 (f2 + 0 * 5)) (rIx 89 rfl b2 f2 t.l.length c 0 5) ?_
      refine zq 1 (zV b2 (f2 + 0 * 5 + 1) (N6 y2.n) (hU2 1 _ rfl) 22 (.tmp 54) _ Tryz.underlying22 rfl ?_)
      refine zq 2 (aK 57 ((y2.n : Int) == 1) (fun h5 => ?_) (fun h5 => ?_))
      ·
       have h5d := eq_of_beq h5
       refine cU [0,3,0,0,0] [(b4,1)] (zn (cD (y3.k == 3) (fun h6 => ?_) (fun h6 => ?_)))
       ·
        have h6d := eq_of_beq h6
        refine zB [0,3,0] [(b4,1)] (aY 1 b1 (zn (aA (dU [2] [(b1,4)] [(.agg #[(I6 1),(St y3.s),(U6 0),(U6 0)])] (fun W' hM => ?_)))))
        refine ⟨?_,hM.below⟩
        have hl2 : t.l.length = 2 := by have := h1; simp at this; omega
        have hll := jU hl2 hy2 hy3
        have hry := lL (bne_eq_false_iff_eq.1 h0) hll (bne_eq_false_iff_eq.1 h2)
        rw [qV ((hry.trans (Itm.lE (by rintro ⟨z1,z2⟩; have := h4; simp at this; omega))).trans (if_pos ⟨by have := h5; simp at this; omega,by have := h6; simpa using this⟩))]
        rfl
       ·
        have h6d := beq_eq_false_iff_ne.1 h6
        refine zk (zs (zr (dL (fun W hM => mZ W) (aY 1 b1 (zn (aA (dU [2] [(b1,4)] [(.agg #[(I6 1),(St [110,111,110,101]),(U6 0),(U6 0)])] (fun W' hM => ?_))))))))
        refine ⟨?_,hM.below⟩
        have hl2 : t.l.length = 2 := by have := h1; simp at this; omega
        have hll := jU hl2 hy2 hy3
        have hry := lL (bne_eq_false_iff_eq.1 h0) hll (bne_eq_false_iff_eq.1 h2)
        rw [qV ((hry.trans (Itm.lE (by rintro ⟨z1,z2⟩; have := h4; simp at this; omega))).trans (if_neg (by rintro ⟨z1,z2⟩; have := h6; simp at this; omega)))]
        rfl
      ·
       have h5d := beq_eq_false_iff_ne.1 h5
       refine zq 5 (zn (dE (zk (zs (zr (dL (fun W hM => mZ W) (aY 1 b1 (zn (aA (dU [2] [(b1,4)] [(.agg #[(I6 1),(St [110,111,110,101]),(U6 0),(U6 0)])] (fun W' hM => ?_)))))))))))
       refine ⟨?_,hM.below⟩
       have hl2 : t.l.length = 2 := by have := h1; simp at this; omega
       have hll := jU hl2 hy2 hy3
       have hry := lL (bne_eq_false_iff_eq.1 h0) hll (bne_eq_false_iff_eq.1 h2)
       rw [qV ((hry.trans (Itm.lE (by rintro ⟨z1,z2⟩; have := h4; simp at this; omega))).trans (if_neg (by rintro ⟨z1,z2⟩; have := h5; simp at this; omega)))]
       rfl
    ·
     have h3d := beq_eq_false_iff_ne.1 h3
     refine zq 6 (zn (dE (zB [0,1] [(b0,1)] ?_)))
     obtain ⟨y9,hy9⟩ : ∃ y,(t.l)[0]? = some y := ⟨(t.l)[0]'oW,List.getElem?_eq_getElem _⟩
     obtain ⟨b9,f9,cs9,e9,hU9,ht9⟩ := hts.at_ 0 y9 hy9
     obtain ⟨a9,c9,rfl,hts9,hn9,hs9,hl9⟩ := ht9.form
     cases e9
     refine cH (Pt b2 (f2 + 0 * 5)) (rIx 89 rfl b2 f2 t.l.length c 0 5) ?_
     refine zq 1 (zV b2 (f2 + 0 * 5 + 1) (N6 y2.n) (hU2 1 _ rfl) 22 (.tmp 54) _ Tryz.underlying22 rfl ?_)
     refine zq 2 (aK 57 ((y2.n : Int) == 1) (fun h7 => ?_) (fun h7 => ?_))
     ·
      have h7d := eq_of_beq h7
      refine cU [0,3,0,0,0] [(b4,1)] (zn (cD (y3.k == 3) (fun h8 => ?_) (fun h8 => ?_)))
      ·
       have h8d := eq_of_beq h8
       refine zB [0,3,0] [(b4,1)] (aY 1 b1 (zn (aA (dU [2] [(b1,4)] [(.agg #[(I6 1),(St y3.s),(U6 0),(U6 0)])] (fun W' hM => ?_)))))
       refine ⟨?_,hM.below⟩
       have hl2 : t.l.length = 2 := by have := h1; simp at this; omega
       have hll := jU hl2 hy2 hy3
       have hry := lL (bne_eq_false_iff_eq.1 h0) hll (bne_eq_false_iff_eq.1 h2)
       rw [qV ((hry.trans (Itm.lE (by rintro ⟨z1,z2⟩; have := h3; simp at this; omega))).trans (if_pos ⟨by have := h7; simp at this; omega,by have := h8; simpa using this⟩))]
       rfl
      ·
       have h8d := beq_eq_false_iff_ne.1 h8
       refine zk (zs (zr (dL (fun W hM => mZ W) (aY 1 b1 (zn (aA (dU [2] [(b1,4)] [(.agg #[(I6 1),(St [110,111,110,101]),(U6 0),(U6 0)])] (fun W' hM => ?_))))))))
       refine ⟨?_,hM.below⟩
       have hl2 : t.l.length = 2 := by have := h1; simp at this; omega
       have hll := jU hl2 hy2 hy3
       have hry := lL (bne_eq_false_iff_eq.1 h0) hll (bne_eq_false_iff_eq.1 h2)
       rw [qV ((hry.trans (Itm.lE (by rintro ⟨z1,z2⟩; have := h3; simp at this; omega))).trans (if_neg (by rintro ⟨z1,z2⟩; have := h8; simp at this; omega)))]
       rfl
     ·
      have h7d := beq_eq_false_iff_ne.1 h7
      refine zq 5 (zn (dE (zk (zs (zr (dL (fun W hM => mZ W) (aY 1 b1 (zn (aA (dU [2] [(b1,4)] [(.agg #[(I6 1),(St [110,111,110,101]),(U6 0),(U6 0)])] (fun W' hM => ?_)))))))))))
      refine ⟨?_,hM.below⟩
      have hl2 : t.l.length = 2 := by have := h1; simp at this; omega
      have hll := jU hl2 hy2 hy3
      have hry := lL (bne_eq_false_iff_eq.1 h0) hll (bne_eq_false_iff_eq.1 h2)
      rw [qV ((hry.trans (Itm.lE (by rintro ⟨z1,z2⟩; have := h3; simp at this; omega))).trans (if_neg (by rintro ⟨z1,z2⟩; have := h7; simp at this; omega)))]
      rfl
theorem aLo (e : Ei) (w : World) (he : e.l.length ≤ R47) (hr : aX e = false) : CP 177 #[e.V] w (Ret (.tuple #[(.agg #[(.int .i64 0), (.int .u64 0), (.string (B [])), (.slice none 0 0), (.bool false)]), .int .i64 1]) w) := by
 refine dK 38 Tryz.func177 ?_
 refine zs (zr (cJ (fun b0 => (cJ (fun b1 => (zq 1 (zn (zs (aB (zB [1] [(b0,4)] (dL (fun W hM => iW e W he) (zq 2 (zn (gP (!(aX e)) (by rw [hr]; rfl) ?_))))))))))))))
 refine zQ 1 (aY 1 b1 (zq 1 (zn (aA (dU [2,0] [(b1,5)] [(.agg #[(I6 0),(U6 0),(St []),S0,(.bool false)]),(I6 1)] (fun W' hM => ?_))))))
 exact ⟨rfl,hM.below⟩
noncomputable def ofZ (t : Itm.Tr) : Bool := if aX (rdE t) then tW t (rdE t).tree else false
theorem aLM {t : Itm.Tr} {cs : List Value} {w : World} {U : View} (hU : See U w) (h : TV U t cs) : (rdE t).ok := by
 obtain ⟨h1, h2, h3⟩ := Itm.aA7 (h.toTAt hU)
 exact ⟨h1, h2, h3⟩
theorem aMB (t : Itm.Tr) (cs : List Value) (w : World) {U : View} (hU : See U w) (h : TV U t cs) (hz : ofZ t = true) : CP 187 #[.agg cs.toArray] w (Ret (.tuple #[(rdE t).V, .int .i64 0]) w) := by
 have hT0 := h
 have hok := aLM hU h
 have hr : aX (rdE t) = true := by unfold ofZ at hz; split at hz; assumption; cases hz
 have hsm : tW t (rdE t).tree = true := by unfold ofZ at hz; rwa [if_pos hr] at hz
 obtain ⟨a,c,rfl,hts,_,_,_⟩ := h.form
 refine eG 24 Tryz.func187 hU ?_
 refine zs (zr (cJ (fun b0 => (cJ (fun b1 => (zq 1 (zn (zB [1] [(b0,5)] (dA 218 #[(tV t a c)] (.agg #[(I6 (rdE t).s),(St (rdE t).l),(N6 (rdE t).n),(N6 (rdE t).v)]) (fun W hM => aEg t _ W hM.view hT0) ?_)))))))))
 refine cJ (fun b2 => (aY 2 b2 (zn (zs (zB [3] [(b2,4)] (aED (fun W hM => oB (rdE t) W hM.view hok hr) (fun v3 V3 hV3 hP3 => ?_)))))))
 obtain ⟨cs3,rfl,ht3⟩ := hP3
 obtain ⟨a3,c3,rfl,hts3,hn3,hs3,hl3⟩ := ht3.form
 refine zq 3 (cJ (fun b5 => (aY 3 b5 (zq 1 (zn (zB [0,0,0,1,4] [(b0,5),(b5,5)] (dA 219 #[(tV t a c),(.agg #[(I6 (rdE t).tree.k),(N6 (rdE t).tree.n),(St (rdE t).tree.s),(.slice a3 (rdE t).tree.l.length c3),(.bool (rdE t).tree.o)])] (.bool (tW t (rdE t).tree)) (fun W hM => aCo t (rdE t).tree _ _ W hM.view (hT0.le hV3) ht3) ?_)))))))
 refine zq 2 (zn (eS (!(tW t (rdE t).tree)) (by rw [hsm]; rfl) ?_))
 refine zk (zB [3] [(b2,4)] (aY 1 b1 (zq 1 (zn (aA (dU [2,0] [(b1,4)] [(.agg #[(I6 (rdE t).s),(St (rdE t).l),(N6 (rdE t).n),(N6 (rdE t).v)]),(I6 0)] (fun W' hM => ?_)))))))
 exact ⟨rfl,hM.below⟩
theorem aNy (t : Itm.Tr) (cs : List Value) (w : World) {U : View} (hU : See U w) (h : TV U t cs) (hz : ofZ t = false) : CP 187 #[.agg cs.toArray] w (Ret (.tuple #[(⟨0, [], 0, 0⟩ : Ei).V, .int .i64 2]) w) := by
 have hT0 := h
 have hok := aLM hU h
 obtain ⟨a,c,rfl,hts,_,_,_⟩ := h.form
 refine eG 24 Tryz.func187 hU ?_
 refine zs (zr (cJ (fun b0 => (cJ (fun b1 => (zq 1 (zn (zB [1] [(b0,5)] (dA 218 #[(tV t a c)] (.agg #[(I6 (rdE t).s),(St (rdE t).l),(N6 (rdE t).n),(N6 (rdE t).v)]) (fun W hM => aEg t _ W hM.view hT0) ?_)))))))))
 refine cJ (fun b2 => (aY 2 b2 (zn (zs (zB [3] [(b2,4)] ?_)))))
 rcases Bool.eq_false_or_eq_true (aX (rdE t)) with h0 | h0
 ·
  refine aED (fun W hM => oB (rdE t) W hM.view hok h0) (fun v3 V3 hV3 hP3 => ?_)
  obtain ⟨cs3,rfl,ht3⟩ := hP3
  obtain ⟨a3,c3,rfl,hts3,hn3,hs3,hl3⟩ := ht3.form
  refine zq 3 (cJ (fun b5 => (aY 3 b5 (zq 1 (zn (zQ 3 ?_))))))
  have hsm : tW t (rdE t).tree = false := by unfold ofZ at hz; rwa [if_pos h0] at hz
  refine cU [1,4] [(b0,5),(b5,5)] (dA 219 #[(tV t a c),(.agg #[(I6 (rdE t).tree.k),(N6 (rdE t).tree.n),(St (rdE t).tree.s),(.slice a3 (rdE t).tree.l.length c3),(.bool (rdE t).tree.o)])] (.bool (tW t (rdE t).tree)) (fun W hM => aCo t (rdE t).tree _ _ W hM.view (hT0.le hV3) ht3) ?_)
  refine zq 2 (zn (gP (!(tW t (rdE t).tree)) (by rw [hsm]; rfl) ?_))
  refine zQ 1 (aY 1 b1 (zq 1 (zn (aA (dU [2,0] [(b1,4)] [(.agg #[(I6 0),(St []),(U6 0),(U6 0)]),(I6 2)] (fun W' hM => ?_))))))
  exact ⟨rfl,hM.below⟩
 ·
  refine dL (fun W hM => aLo (rdE t) W hok.l h0) (zq 3 (cJ (fun b6 => (aY 3 b6 (zq 1 (zn (zQ 8 (zn (dF (zQ 1 (aY 1 b1 (zq 1 (zn (aA (dU [2,0] [(b1,4)] [(.agg #[(I6 0),(St []),(U6 0),(U6 0)]),(I6 2)] (fun W' hM => ?_))))))))))))))))
  exact ⟨rfl,hM.below⟩
theorem aN7 {α : Type} {l : List α} (h : l.length = 5) {t c s r : α} (h0 : l[0]? = some t) (h1 : l[1]? = some c) (h3 : l[3]? = some s) (h4 : l[4]? = some r) : ∃ z, l = [t, c, z, s, r] := by
 match l, h with
 | [a, b, z, d, e], _ =>
  simp only [List.getElem?_cons_zero, List.getElem?_cons_succ, Option.some.injEq] at h0 h1 h3 h4
  subst h0 h1 h3 h4
  exact ⟨z, rfl⟩
theorem aN6 {α : Type} {l : List α} (h : l.length = 6) {t c s p r : α} (h0 : l[0]? = some t) (h1 : l[1]? = some c) (h3 : l[3]? = some s) (h4 : l[4]? = some p) (h5 : l[5]? = some r) : ∃ z, l = [t, c, z, s, p, r] := by
 match l, h with
 | [a, b, z, d, e, g], _ =>
  simp only [List.getElem?_cons_zero, List.getElem?_cons_succ, Option.some.injEq] at h0 h1 h3 h4 h5
  subst h0 h1 h3 h4 h5
  exact ⟨z, rfl⟩
theorem get_some {α : Type} {l : List α} {i : Nat} (h : i < l.length) : ∃ y, l[i]? = some y := ⟨_, List.getElem?_eq_getElem h⟩
theorem aMN {l : List Itm.Tr} (h : ¬ (l.length = 5 ∨ l.length = 6)) : asR l = none := by
 unfold asR
 rw [if_neg h]
theorem aNE {l : List Itm.Tr} {t : Itm.Tr} (h0 : l[0]? = some t) (h : aEC t = none) : asR l = none := by
 unfold asR
 split
 ·
  match l with
  | [] => rfl
  | [_] => rfl
  | a :: b :: l =>
   simp only [List.getElem?_cons_zero, Option.some.injEq] at h0
   subst h0
   simp only [h]
 · rfl
theorem aNG {l : List Itm.Tr} {c : Itm.Tr} (h0 : l[1]? = some c) (h : aEE c = none) : asR l = none := by
 unfold asR
 split
 ·
  match l with
  | [] => rfl
  | [_] => rfl
  | a :: b :: l =>
   simp only [List.getElem?_cons_zero, List.getElem?_cons_succ, Option.some.injEq] at h0
   subst h0
   simp only [h]
   cases aEC a <;> rfl
 · rfl
theorem aNF {l : List Itm.Tr} {s : Itm.Tr} (h0 : l[3]? = some s) (h : ofE s = none) : asR l = none := by
 unfold asR
 split
 ·
  match l with
  | [] => rfl
  | [_] => rfl
  | [_, _] => simp at h0
  | [_, _, _] => simp at h0
  | a :: b :: c :: d :: l =>
   simp only [List.getElem?_cons_zero, List.getElem?_cons_succ, Option.some.injEq] at h0
   subst h0
   simp only [aMY, h]
   cases aEC a with
   | none => rfl
   | some t => cases aEE b <;> rfl
 · rfl
theorem aNH {l : List Itm.Tr} (hl : l.length = 5) {t c s r : Itm.Tr} (h0 : l[0]? = some t) (h1 : l[1]? = some c) (h3 : l[3]? = some s) (h4 : l[4]? = some r) {t' : List Int} {c' : Int} {s' : Ei} (ht : aEC t = some t') (hc : aEE c = some c') (hs : ofE s = some s') : asR l = aKc t' c' s' [] r := by
 obtain ⟨z, rfl⟩ := aN7 hl h0 h1 h3 h4
 unfold asR
 rw [if_pos (.inl hl)]
 simp only [ht, hc, aMY, hs, aNI]
theorem aMO {l : List Itm.Tr} (hl : l.length = 6) {t c s p r : Itm.Tr} (h0 : l[0]? = some t) (h1 : l[1]? = some c) (h3 : l[3]? = some s) (h4 : l[4]? = some p) (h5 : l[5]? = some r) {t' : List Int} {c' : Int} {s' : Ei} (ht : aEC t = some t') (hc : aEE c = some c') (hs : ofE s = some s') : asR l = match jA p with
  | none => none
  | some p' => aKc t' c' s' p' r := by
 obtain ⟨z, rfl⟩ := aN6 hl h0 h1 h3 h4 h5
 unfold asR
 rw [if_pos (.inr hl)]
 simp only [ht, hc, aMY, hs, aNI]
 all_goals (cases jA p <;> rfl)
theorem aIU {t : Itm.Tr} (h : (Itm.iR t).right = true) : (rdE t).tree = (Itm.iR t).tree := by
 unfold rdE
 generalize Itm.iR t = m at h ⊢
 obtain ⟨k, l, n, v⟩ := m
 have hk : k = 1 ∨ k = 2 := by
  unfold Itm.Nm.right Eid.gM at h
  simp only at h
  split at h
  · omega
  ·
   split at h
   · omega
   · cases h
 unfold Ei.tree Itm.Nm.tree Itm.aK5 Itm.aNT
 rcases hk with rfl | rfl
 ·
  by_cases hl : l = [110, 111, 110, 101]
  · subst hl; rfl
  ·
   have hb : (l == [110, 111, 110, 101]) = false := beq_eq_false_iff_ne.2 hl
   simp only [hb, hl]
   rfl
 · rfl
theorem aGo {t : Itm.Tr} {e : Ei} (h : ofE t = some e) (cs : List Value) (w : World) {U : View} (hU : See U w) (ht : TV U t cs) : CP 187 #[.agg cs.toArray] w (Ret (.tuple #[e.V, .int .i64 0]) w) := by
 unfold ofE at h
 split at h
 ·
  next hp =>
  obtain rfl := Option.some.inj h
  have h1 : aX (rdE t) = true := hp.1
  have h2 : (rdE t).tree = t := (aIU hp.1).trans hp.2.2.symm
  refine aMB t cs w hU ht ?_
  unfold ofZ tW
  rw [if_pos h1, if_pos hp.2.1, h2, if_pos hp.2.1]
  exact aFr.2 rfl
 · cases h
theorem aGp {t : Itm.Tr} (h : ofE t = none) (cs : List Value) (w : World) {U : View} (hU : See U w) (ht : TV U t cs) : CP 187 #[.agg cs.toArray] w (Ret (.tuple #[(⟨0, [], 0, 0⟩ : Ei).V, .int .i64 2]) w) := by
 unfold ofE at h
 split at h
 · cases h
 ·
  next hp =>
  refine aNy t cs w hU ht ?_
  unfold ofZ
  split
  ·
   next h1 =>
   unfold tW
   split
   ·
    next h8 =>
    split
    · exact aCu.2 fun e => hp ⟨h1, h8, e.trans (aIU h1)⟩
    · rfl
   · rfl
  · rfl
theorem aLN {t : Itm.Tr} {e : Ei} (h : ofE t = some e) {U : View} {cs : List Value} {w : World} (hU : See U w) (ht : TV U t cs) : e.ok := by
 unfold ofE at h
 split at h
 ·
  obtain rfl := Option.some.inj h
  obtain ⟨h1, h2, h3⟩ := Itm.aA7 (ht.toTAt hU)
  exact ⟨h1, h2, h3⟩
 · cases h
def aMU (eA : Addr) (x : Option As) (v : Value) (V : View) : Prop := match x with
 | some a => ∃ a1 a2 a3 c1 c2 c3, v = .tuple #[asV a a1 a2 a3 c1 c2 c3, .nilIface] ∧ aEH V a1 a2 a3 a ∧ a.t.length ≤ c1
 | none => ∃ (a1 : Option Addr) (n1 c1 : Nat) (k s : Int) (l : List UInt8) (n m : Nat) (a2 : Option Addr) (n2 c2 : Nat) (a3 : Option Addr) (n3 c3 : Nat) (e : Er), v = .tuple #[.agg #[.slice a1 n1 c1, .int .i64 k, .int .i64 s, .string (B l), .int .u64 n, .int .u64 m, .slice a2 n2 c2, .slice a3 n3 c3], e.V eA]
theorem aBz {f : List UInt8 → Option (Itm.Tr × Nat)} : ∀ {n : Nat} {s : List UInt8} {l : List Itm.Tr} {k : Nat}, gR f n s = some (l, k) → ∀ x ∈ l, ∃ s' k', f s' = some (x, k')
 | 0, s, l, k, h, x, hx => by
  rw [gR] at h
  simp only [Option.some.injEq, Prod.mk.injEq] at h
  rw [← h.1] at hx
  cases hx
 | n + 1, s, l, k, h, x, hx => by
  rw [gR] at h
  split at h
  · cases h
  ·
   next t k1 h1 =>
   split at h
   · cases h
   ·
    next ts j h2 =>
    simp only [Option.some.injEq, Prod.mk.injEq] at h
    rw [← h.1] at hx
    rcases List.mem_cons.1 hx with rfl | hx
    · exact ⟨s, k1, h1⟩
    · exact aBz h2 x hx
theorem aDX {f : List UInt8 → Option (Itm.Tr × Nat)} : ∀ {n : Nat} {s : List UInt8} {l : List Itm.Tr} {k : Nat}, oP f n s = some (l, k) → ∀ x ∈ l, ∃ s' k', f s' = some (x, k')
 | 0, s, l, k, h, x, hx => by
  rw [oP] at h
  split at h
  ·
   simp only [Option.some.injEq, Prod.mk.injEq] at h
   rw [← h.1] at hx
   cases hx
  · cases h
 | n + 1, s, l, k, h, x, hx => by
  rw [oP] at h
  split at h
  ·
   simp only [Option.some.injEq, Prod.mk.injEq] at h
   rw [← h.1] at hx
   cases hx
  ·
   split at h
   · cases h
   ·
    next t k1 h1 =>
    split at h
    · cases h
    ·
     next ts j h2 =>
     simp only [Option.some.injEq, Prod.mk.injEq] at h
     rw [← h.1] at hx
     rcases List.mem_cons.1 hx with rfl | hx
     · exact ⟨s, k1, h1⟩
     · exact aDX h2 x hx
theorem aC9 {d : Nat} {s : List UInt8} {t : Itm.Tr} {k : Nat} (h : itF (d + 1) s = some (t, k)) : t.l.length ≤ 1000 ∧ ∀ x ∈ t.l, ∃ s' k', itF d s' = some (x, k') := by
 rw [itF] at h
 split at h
 · cases h
 ·
  next m n o z hx =>
  split at h
  ·
   simp only [Option.some.injEq, Prod.mk.injEq] at h
   rw [← h.1]
   exact ⟨Nat.zero_le _, fun x hx => by cases hx⟩
  ·
   split at h
   ·
    unfold lT at h
    split at h
    ·
     simp only [Option.some.injEq, Prod.mk.injEq] at h
     rw [← h.1]
     exact ⟨Nat.zero_le _, fun x hx => by cases hx⟩
    · cases h
   ·
    split at h
    ·
     unfold lT at h
     split at h
     ·
      simp only [Option.some.injEq, Prod.mk.injEq] at h
      rw [← h.1]
      exact ⟨Nat.zero_le _, fun x hx => by cases hx⟩
     · cases h
    ·
     split at h
     ·
      split at h
      ·
       cases hq : oP (itF d) 1000 (s.drop z) with
       | none => rw [hq] at h; cases h
       | some q =>
        obtain ⟨l, j⟩ := q
        rw [hq] at h
        simp only [pG, Option.some.injEq, Prod.mk.injEq] at h
        rw [← h.1]
        exact ⟨(aBk (rG d) _ _ _ _ hq).2, aDX hq⟩
      ·
       split at h
       ·
        cases hq : gR (itF d) n (s.drop z) with
        | none => rw [hq] at h; cases h
        | some q =>
         obtain ⟨l, j⟩ := q
         rw [hq] at h
         simp only [pG, Option.some.injEq, Prod.mk.injEq] at h
         rw [← h.1]
         have := (rJ (rG d) _ _ _ _ hq).2
         exact ⟨by show l.length ≤ 1000; omega, aBz hq⟩
       · cases h
     · cases h
def aOb (l : List Itm.Tr) : Prop := ∀ x ∈ l, x.l.length ≤ 1000000 ∧ ∀ y ∈ x.l, y.l.length ≤ 1000000
theorem aJe {d : Nat} {s : List UInt8} {t : Itm.Tr} {k : Nat} (h : itF (d + 3) s = some (t, k)) : aOb t.l := fun x hx => by
 obtain ⟨s1, k1, h1⟩ := (aC9 h).2 x hx
 have h2 := aC9 h1
 refine ⟨by omega, fun y hy => ?_⟩
 obtain ⟨s2, k2, h3⟩ := h2.2 y hy
 have h4 := (aC9 h3).1
 omega
theorem aFY (eA : Addr) (l : List Itm.Tr) (aL : Option Addr) (cL : Nat) (w : World) {U : View} (hU : See U w) (hE : EF U eA) (hl : fG U aL l) (hwd : aOb l) : CP 139 #[.slice aL l.length cL] w (rO w U (aMU eA (asR l))) := by
 have hlen := hl.len
 unfold R47 at hlen
 refine eG 81 Tryz.func139 hU ?_
 refine zs (zr (cJ (fun b0 => (zq 1 (zn (zs (zQ 4 (aK 9 ((l.length : Int) != 5) (fun h0 => ?_) (fun h0 => ?_)))))))))
 ·
  have h0d := bne_iff_ne.1 h0
  refine zq 4 (zn (cD ((l.length : Int) != 6) (fun h1 => ?_) (fun h1 => ?_)))
  ·
   have h1d := bne_iff_ne.1 h1
   refine zs ?_
   refine gU 0 [3,1] [(b0,8)] [.val (Er.V eA (Er.wrap [105,116,101,109,115] .leaf))] ⟨?_,trivial⟩ ?_
   · exact vC 184 #[(St [105,116,101,109,115])] (fun W hM => pI eA [105,116,101,109,115] W hM.view hE)
   refine aY 0 b0 (zq 1 (zn (aA (dU [1,0] [(b0,8)] [(.agg #[S0,(I6 0),(I6 0),(St []),(U6 0),(U6 0),S0,S0]),(Er.V eA (Er.wrap [105,116,101,109,115] .leaf))] (fun W' hM => ?_)))))
   have hz : asR l = none := aMN oW
   rw [hz]
   exact cF hM (View.le_refl _) ⟨_,_,_,_,_,_,_,_,_,_,_,_,_,_,(Er.wrap [105,116,101,109,115] .leaf),rfl⟩
  ·
   have h1d := bne_eq_false_iff_eq.1 h1
   refine zk (zs (zQ 1 ?_))
   obtain ⟨y1,hy1⟩ : ∃ y,(l)[0]? = some y := ⟨(l)[0]'oW,List.getElem?_eq_getElem _⟩
   obtain ⟨b1,f1,cs1,rfl,hU1,ht1⟩ := hl.at_ 0 y1 hy1
   obtain ⟨a1,c1,rfl,hts1,hn1,hs1,hl1⟩ := ht1.form
   refine cH (Pt b1 (f1 + 0 * 5)) (rIx 89 rfl b1 f1 l.length cL 0 5) ?_
   refine zU b1 (f1 + 0 * 5) (tC y1 a1 c1) hU1 89 (.tmp 18) _ Tryz.underlying89 rfl ?_
   rcases Bool.eq_false_or_eq_true ((aEC y1).isSome) with h2 | h2
   ·
    refine aAn 185 #[(tV y1 a1 c1)] (aDu InR 1 eA (aEC y1)) (fun W hM => iF eA y1 _ _ W hM.view hE hts1 (hwd y1 (List.mem_of_getElem? hy1)).1) (fun v2 V2 hV2 hP2 => ?_)
    have k3 := hl.le hV2
    obtain ⟨l2,a2,c2,hq2,rfl,hls2,hc2⟩ := (hP2).some h2
    have hin2 := hls2.ins
    refine zq 4 (aY 0 b0 (zq 1 (zn (zQ 1 (cH (.bool false) (jV .neq false _ _ _ rfl (Or.inr ⟨rfl,rfl⟩) kR kR) ?_)))))
    refine zn (dE (zk (zs (zQ 1 ?_))))
    obtain ⟨y6,hy6⟩ : ∃ y,(l)[1]? = some y := ⟨(l)[1]'oW,List.getElem?_eq_getElem _⟩
    obtain ⟨b6,f6,cs6,e6,hU6,ht6⟩ := k3.at_ 1 y6 hy6
    obtain ⟨a6,c6,rfl,hts6,hn6,hs6,hl6⟩ := ht6.form
    cases e6
    refine cH (Pt b1 (f1 + 1 * 5)) (rIx 89 rfl b1 f1 l.length cL 1 5) ?_
    refine zU b1 (f1 + 1 * 5) (tC y6 a6 c6) hU6 89 (.tmp 30) _ Tryz.underlying89 rfl ?_
    rcases Bool.eq_false_or_eq_true (y6.k == 0) with h3 | h3
    ·
     have h3d := eq_of_beq h3
     refine dA 186 #[(tV y6 a6 c6)] (.tuple #[(L6 (min y6.n 65536)),.nilIface]) (fun W hM => aF6 eA y6 _ _ W hM.view h3 (by obtain ⟨_,_,_,_,h9,_⟩ := (ht6).form; exact h9)) ?_
     refine zq 4 (aY 0 b0 (zq 1 (zn (zQ 1 (cH (.bool false) (jV .neq false _ _ _ rfl (Or.inr ⟨rfl,rfl⟩) kR kR) ?_)))))
     refine zn (dE (zk (zQ 1 ?_)))
     obtain ⟨y7,hy7⟩ : ∃ y,(l)[3]? = some y := ⟨(l)[3]'oW,List.getElem?_eq_getElem _⟩
     obtain ⟨b7,f7,cs7,e7,hU7,ht7⟩ := k3.at_ 3 y7 hy7
     obtain ⟨a7,c7,rfl,hts7,hn7,hs7,hl7⟩ := ht7.form
     cases e7
     refine cH (Pt b1 (f1 + 3 * 5)) (rIx 89 rfl b1 f1 l.length cL 3 5) ?_
     refine zU b1 (f1 + 3 * 5) (tC y7 a7 c7) hU7 89 (.tmp 42) _ Tryz.underlying89 rfl ?_
     rcases Bool.eq_false_or_eq_true ((ofE y7).isSome) with h4 | h4
     ·
      obtain ⟨e8,hq8⟩ := Option.isSome_iff_exists.1 h4
      refine dA 187 #[(tV y7 a7 c7)] (.tuple #[(.agg #[(I6 e8.s),(St e8.l),(N6 e8.n),(N6 e8.v)]),(I6 0)]) (fun W hM => aGo hq8 _ W hM.view ht7) ?_
      refine zq 3 (cJ (fun b9 => (aY 1 b9 (zq 1 (zn (zs (zQ 2 (zn (dE (zk (zB [2,0] [(b9,4)] (aY 0 b0 (zn (zs (zQ 3 (zn (gP ((l.length : Int) == 6) (beq_iff_eq.2 oW) ?_)))))))))))))))))
      refine zQ 1 ?_
      obtain ⟨y10,hy10⟩ : ∃ y,(l)[4]? = some y := ⟨(l)[4]'oW,List.getElem?_eq_getElem _⟩
      obtain ⟨b10,f10,cs10,e10,hU10,ht10⟩ := k3.at_ 4 y10 hy10
      obtain ⟨a10,c10,rfl,hts10,hn10,hs10,hl10⟩ := ht10.form
      cases e10
      refine cH (Pt b1 (f1 + 4 * 5)) (rIx 89 rfl b1 f1 l.length cL 4 5) ?_
      refine zU b1 (f1 + 4 * 5) (tC y10 a10 c10) hU10 89 (.tmp 58) _ Tryz.underlying89 rfl ?_
      rcases Bool.eq_false_or_eq_true ((jA y10).isSome) with h5 | h5
      ·
       refine aAn 188 #[(tV y10 a10 c10)] (aDu PaR 6 eA (jA y10)) (fun W hM => jW eA y10 _ _ W hM.view (hE.le hV2) hts10 (hwd y10 (List.mem_of_getElem? hy10)).1) (fun v11 V11 hV11 hP11 => ?_)
       have k12 := k3.le hV11
       have k14 := hin2.le hV11
       have k17 := ht7.le hV11
       obtain ⟨l11,a11,c11,hq11,rfl,hls11,hc11⟩ := (hP11).some h5
       refine zq 4 (aY 0 b0 (zq 1 (zn (zQ 1 (cH (.bool false) (jV .neq false _ _ _ rfl (Or.inr ⟨rfl,rfl⟩) kR kR) ?_)))))
       refine zn (dE (zk (zQ 4 (eE 72 (I6 (IntKind.i64.wrap ((l.length : Int) - 1))) (L6 (l.length - 1)) (congrArg (Value.int .i64) (by rw [IntWalk.i64_in _ oW]; omega)) ?_))))
       obtain ⟨y22,hy22⟩ : ∃ y,(l)[(l.length - 1)]? = some y := ⟨(l)[(l.length - 1)]'oW,List.getElem?_eq_getElem _⟩
       obtain ⟨b22,f22,cs22,e22,hU22,ht22⟩ := k12.at_ (l.length - 1) y22 hy22
       obtain ⟨a22,c22,rfl,hts22,hn22,hs22,hl22⟩ := ht22.form
       cases e22
       refine cH (.pointer (some ⟨b1,f1 + (l.length - 1) * 5,none⟩)) (rIx 89 rfl b1 f1 l.length cL (l.length - 1) 5) ?_
       refine zU b1 (f1 + (l.length - 1) * 5) (tC y22 a22 c22) hU22 89 (.tmp 73) _ Tryz.underlying89 rfl ?_
       rcases Bool.eq_false_or_eq_true ((aIw y22).isSome) with h6 | h6
       ·
        refine aAn 189 #[(tV y22 a22 c22)] (aDu RlR 1 eA (aIw y22)) (fun W hM => iG eA y22 _ _ W hM.view (hE.le (View.le_trans hV2 hV11)) hts22 (hwd y22 (List.mem_of_getElem? hy22)).1 (hwd y22 (List.mem_of_getElem? hy22)).2) (fun v23 V23 hV23 hP23 => ?_)
        have k26 := k14.le hV23
        have k27 := hls11.le hV23
        have k30 := k17.le hV23
        obtain ⟨l23,a23,c23,hq23,rfl,hls23,hc23⟩ := (hP23).some h6
        refine zq 4 (aY 0 b0 (zq 1 (zn (zB [1,0] [(b0,8)] (aY 0 b0 (zq 1 (zn (aA (dU [1,0] [(b0,8)] [(.agg #[(.slice a2 l2.length c2),(L6 (min y6.n 65536)),(I6 e8.s),(St e8.l),(N6 e8.n),(N6 e8.v),(.slice a11 l11.length c11),(.slice a23 l23.length c23)]),.nilIface] (fun W' hM => ?_))))))))))
        have hz : asR l = some ⟨l2,((min y6.n 65536 : Nat) : Int),e8,l11,l23⟩ := by rw [aMO oW hy1 hy6 hy7 hy10 (by rw [show 5 = l.length - 1 by omega]; exact hy22) hq2 (lN h3) hq8,hq11]; unfold aKc; rw [hq23]
        rw [hz]
        exact cF hM (View.le_trans (View.le_trans hV2 hV11) hV23) ⟨_,_,_,_,_,_,rfl,⟨k26,k27,hls23,aLN hq8 hM.view k30⟩,hc2⟩
       ·
        refine aAn 189 #[(tV y22 a22 c22)] (aDu RlR 1 eA (aIw y22)) (fun W hM => iG eA y22 _ _ W hM.view (hE.le (View.le_trans hV2 hV11)) hts22 (hwd y22 (List.mem_of_getElem? hy22)).1 (hwd y22 (List.mem_of_getElem? hy22)).2) (fun v37 V37 hV37 hP37 => ?_)
        obtain ⟨hq37,e37,rfl⟩ := (hP37).none h6
        refine zq 4 (aY 0 b0 (zq 1 (zn (zB [1,0] [(b0,8)] (aY 0 b0 (zq 1 (zn (aA (dU [1,0] [(b0,8)] [(.agg #[(.slice a2 l2.length c2),(L6 (min y6.n 65536)),(I6 e8.s),(St e8.l),(N6 e8.n),(N6 e8.v),(.slice a11 l11.length c11),S0]),(Er.V eA e37)] (fun W' hM => ?_))))))))))
        have hz : asR l = none := by rw [aMO oW hy1 hy6 hy7 hy10 (by rw [show 5 = l.length - 1 by omega]; exact hy22) hq2 (lN h3) hq8,hq11]; unfold aKc; rw [hq37]
        rw [hz]
        exact cF hM (View.le_trans (View.le_trans hV2 hV11) hV37) ⟨_,_,_,_,_,_,_,_,_,_,_,_,_,_,e37,rfl⟩
      ·
       refine aAn 188 #[(tV y10 a10 c10)] (aDu PaR 6 eA (jA y10)) (fun W hM => jW eA y10 _ _ W hM.view (hE.le hV2) hts10 (hwd y10 (List.mem_of_getElem? hy10)).1) (fun v51 V51 hV51 hP51 => ?_)
       obtain ⟨hq51,e51,rfl⟩ := (hP51).none h5
       refine zq 4 (aY 0 b0 (zq 1 (zn (zQ 1 (cH (.bool true) (qU .neq true _ _ _ _ rfl (Or.inr ⟨rfl,rfl⟩) kR eA e51 kR kR) ?_)))))
       refine zn (dF (zB [1,0] [(b0,8)] (aY 0 b0 (zq 1 (zn (aA (dU [1,0] [(b0,8)] [(.agg #[(.slice a2 l2.length c2),(L6 (min y6.n 65536)),(I6 e8.s),(St e8.l),(N6 e8.n),(N6 e8.v),S0,S0]),(Er.V eA e51)] (fun W' hM => ?_))))))))
       have hz : asR l = none := by obtain ⟨r9,hr9⟩ : ∃ y,l[5]? = some y := get_some oW; rw [aMO oW hy1 hy6 hy7 hy10 hr9 hq2 (lN h3) hq8,hq51]
       rw [hz]
       exact cF hM (View.le_trans hV2 hV51) ⟨_,_,_,_,_,_,_,_,_,_,_,_,_,_,e51,rfl⟩
     ·
      have hq62 := Option.not_isSome_iff_eq_none.1 (by rw [h4]; exact Bool.false_ne_true)
      refine dA 187 #[(tV y7 a7 c7)] (.tuple #[(.agg #[(I6 0),(St []),(U6 0),(U6 0)]),(I6 2)]) (fun W hM => aGp hq62 _ W hM.view ht7) ?_
      refine zq 3 (cJ (fun b63 => (aY 1 b63 (zq 1 (zn (zs (zQ 2 (zn (dF (zs ?_))))))))))
      refine gU 0 [3,1] [(b0,8)] [.val (Er.V eA (Er.wrap [110,97,109,101] .leaf))] ⟨?_,trivial⟩ ?_
      · exact vC 184 #[(St [110,97,109,101])] (fun W hM => pI eA [110,97,109,101] W hM.view (hE.le hV2))
      refine aY 0 b0 (zq 1 (zn (aA (dU [1,0] [(b0,8)] [(.agg #[(.slice a2 l2.length c2),(L6 (min y6.n 65536)),(I6 0),(St []),(U6 0),(U6 0),S0,S0]),(Er.V eA (Er.wrap [110,97,109,101] .leaf))] (fun W' hM => ?_)))))
      have hz : asR l = none := aNF hy7 hq62
      rw [hz]
      exact cF hM hV2 ⟨_,_,_,_,_,_,_,_,_,_,_,_,_,_,(Er.wrap [110,97,109,101] .leaf),rfl⟩
    ·
     refine dA 186 #[(tV y6 a6 c6)] (.tuple #[(I6 0),(Er.V eA (Er.wrap [110,117,109,98,101,114] .leaf))]) (fun W hM => aF7 eA y6 _ _ W hM.view (hE.le hV2) h3) ?_
     refine zq 4 (aY 0 b0 (zq 1 (zn (zQ 1 (cH (.bool true) (qU .neq true _ _ _ _ rfl (Or.inr ⟨rfl,rfl⟩) kR eA (Er.wrap [110,117,109,98,101,114] .leaf) kR kR) ?_)))))
     refine zn (dF (zB [1,0] [(b0,8)] (aY 0 b0 (zq 1 (zn (aA (dU [1,0] [(b0,8)] [(.agg #[(.slice a2 l2.length c2),(I6 0),(I6 0),(St []),(U6 0),(U6 0),S0,S0]),(Er.V eA (Er.wrap [110,117,109,98,101,114] .leaf))] (fun W' hM => ?_))))))))
     have hz : asR l = none := aNG hy6 (sO h3)
     rw [hz]
     exact cF hM hV2 ⟨_,_,_,_,_,_,_,_,_,_,_,_,_,_,(Er.wrap [110,117,109,98,101,114] .leaf),rfl⟩
   ·
    refine aAn 185 #[(tV y1 a1 c1)] (aDu InR 1 eA (aEC y1)) (fun W hM => iF eA y1 _ _ W hM.view hE hts1 (hwd y1 (List.mem_of_getElem? hy1)).1) (fun v64 V64 hV64 hP64 => ?_)
    obtain ⟨hq64,e64,rfl⟩ := (hP64).none h2
    refine zq 4 (aY 0 b0 (zq 1 (zn (zQ 1 (cH (.bool true) (qU .neq true _ _ _ _ rfl (Or.inr ⟨rfl,rfl⟩) kR eA e64 kR kR) ?_)))))
    refine zn (dF (zB [1,0] [(b0,8)] (aY 0 b0 (zq 1 (zn (aA (dU [1,0] [(b0,8)] [(.agg #[S0,(I6 0),(I6 0),(St []),(U6 0),(U6 0),S0,S0]),(Er.V eA e64)] (fun W' hM => ?_))))))))
    have hz : asR l = none := aNE hy1 hq64
    rw [hz]
    exact cF hM hV64 ⟨_,_,_,_,_,_,_,_,_,_,_,_,_,_,e64,rfl⟩
 ·
  have h0d := bne_eq_false_iff_eq.1 h0
  refine zq 4 (zn (dE (zk (zs (zQ 1 ?_)))))
  obtain ⟨y68,hy68⟩ : ∃ y,(l)[0]? = some y := ⟨(l)[0]'oW,List.getElem?_eq_getElem _⟩
  obtain ⟨b68,f68,cs68,rfl,hU68,ht68⟩ := hl.at_ 0 y68 hy68
  obtain ⟨a68,c68,rfl,hts68,hn68,hs68,hl68⟩ := ht68.form
  refine cH (Pt b68 (f68 + 0 * 5)) (rIx 89 rfl b68 f68 l.length cL 0 5) ?_
  refine zU b68 (f68 + 0 * 5) (tC y68 a68 c68) hU68 89 (.tmp 18) _ Tryz.underlying89 rfl ?_
  rcases Bool.eq_false_or_eq_true ((aEC y68).isSome) with h7 | h7
  ·
   refine aAn 185 #[(tV y68 a68 c68)] (aDu InR 1 eA (aEC y68)) (fun W hM => iF eA y68 _ _ W hM.view hE hts68 (hwd y68 (List.mem_of_getElem? hy68)).1) (fun v69 V69 hV69 hP69 => ?_)
   have k70 := hl.le hV69
   obtain ⟨l69,a69,c69,hq69,rfl,hls69,hc69⟩ := (hP69).some h7
   have hin69 := hls69.ins
   refine zq 4 (aY 0 b0 (zq 1 (zn (zQ 1 (cH (.bool false) (jV .neq false _ _ _ rfl (Or.inr ⟨rfl,rfl⟩) kR kR) ?_)))))
   refine zn (dE (zk (zs (zQ 1 ?_))))
   obtain ⟨y73,hy73⟩ : ∃ y,(l)[1]? = some y := ⟨(l)[1]'oW,List.getElem?_eq_getElem _⟩
   obtain ⟨b73,f73,cs73,e73,hU73,ht73⟩ := k70.at_ 1 y73 hy73
   obtain ⟨a73,c73,rfl,hts73,hn73,hs73,hl73⟩ := ht73.form
   cases e73
   refine cH (Pt b68 (f68 + 1 * 5)) (rIx 89 rfl b68 f68 l.length cL 1 5) ?_
   refine zU b68 (f68 + 1 * 5) (tC y73 a73 c73) hU73 89 (.tmp 30) _ Tryz.underlying89 rfl ?_
   rcases Bool.eq_false_or_eq_true (y73.k == 0) with h8 | h8
   ·
    have h8d := eq_of_beq h8
    refine dA 186 #[(tV y73 a73 c73)] (.tuple #[(L6 (min y73.n 65536)),.nilIface]) (fun W hM => aF6 eA y73 _ _ W hM.view h8 (by obtain ⟨_,_,_,_,h9,_⟩ := (ht73).form; exact h9)) ?_
    refine zq 4 (aY 0 b0 (zq 1 (zn (zQ 1 (cH (.bool false) (jV .neq false _ _ _ rfl (Or.inr ⟨rfl,rfl⟩) kR kR) ?_)))))
    refine zn (dE (zk (zQ 1 ?_)))
    obtain ⟨y74,hy74⟩ : ∃ y,(l)[3]? = some y := ⟨(l)[3]'oW,List.getElem?_eq_getElem _⟩
    obtain ⟨b74,f74,cs74,e74,hU74,ht74⟩ := k70.at_ 3 y74 hy74
    obtain ⟨a74,c74,rfl,hts74,hn74,hs74,hl74⟩ := ht74.form
    cases e74
    refine cH (Pt b68 (f68 + 3 * 5)) (rIx 89 rfl b68 f68 l.length cL 3 5) ?_
    refine zU b68 (f68 + 3 * 5) (tC y74 a74 c74) hU74 89 (.tmp 42) _ Tryz.underlying89 rfl ?_
    rcases Bool.eq_false_or_eq_true ((ofE y74).isSome) with h9 | h9
    ·
     obtain ⟨e75,hq75⟩ := Option.isSome_iff_exists.1 h9
     refine dA 187 #[(tV y74 a74 c74)] (.tuple #[(.agg #[(I6 e75.s),(St e75.l),(N6 e75.n),(N6 e75.v)]),(I6 0)]) (fun W hM => aGo hq75 _ W hM.view ht74) ?_
     refine zq 3 (cJ (fun b76 => (aY 1 b76 (zq 1 (zn (zs (zQ 2 (zn (dE (zk (zB [2,0] [(b76,4)] (aY 0 b0 (zn (zs (zQ 3 (zn (eS ((l.length : Int) == 6) (beq_eq_false_iff_ne.2 oW) ?_)))))))))))))))))
     refine zk (zQ 4 (eE 72 (I6 (IntKind.i64.wrap ((l.length : Int) - 1))) (L6 (l.length - 1)) (congrArg (Value.int .i64) (by rw [IntWalk.i64_in _ oW]; omega)) ?_))
     obtain ⟨y77,hy77⟩ : ∃ y,(l)[(l.length - 1)]? = some y := ⟨(l)[(l.length - 1)]'oW,List.getElem?_eq_getElem _⟩
     obtain ⟨b77,f77,cs77,e77,hU77,ht77⟩ := k70.at_ (l.length - 1) y77 hy77
     obtain ⟨a77,c77,rfl,hts77,hn77,hs77,hl77⟩ := ht77.form
     cases e77
     refine cH (.pointer (some ⟨b68,f68 + (l.length - 1) * 5,none⟩)) (rIx 89 rfl b68 f68 l.length cL (l.length - 1) 5) ?_
     refine zU b68 (f68 + (l.length - 1) * 5) (tC y77 a77 c77) hU77 89 (.tmp 73) _ Tryz.underlying89 rfl ?_
     rcases Bool.eq_false_or_eq_true ((aIw y77).isSome) with h10 | h10
     ·
      refine aAn 189 #[(tV y77 a77 c77)] (aDu RlR 1 eA (aIw y77)) (fun W hM => iG eA y77 _ _ W hM.view (hE.le hV69) hts77 (hwd y77 (List.mem_of_getElem? hy77)).1 (hwd y77 (List.mem_of_getElem? hy77)).2) (fun v78 V78 hV78 hP78 => ?_)
      have k81 := hin69.le hV78
      have k84 := ht74.le hV78
      obtain ⟨l78,a78,c78,hq78,rfl,hls78,hc78⟩ := (hP78).some h10
      refine zq 4 (aY 0 b0 (zq 1 (zn (zB [1,0] [(b0,8)] (aY 0 b0 (zq 1 (zn (aA (dU [1,0] [(b0,8)] [(.agg #[(.slice a69 l69.length c69),(L6 (min y73.n 65536)),(I6 e75.s),(St e75.l),(N6 e75.n),(N6 e75.v),S0,(.slice a78 l78.length c78)]),.nilIface] (fun W' hM => ?_))))))))))
      have hz : asR l = some ⟨l69,((min y73.n 65536 : Nat) : Int),e75,[],l78⟩ := by rw [aNH oW hy68 hy73 hy74 (by rw [show 4 = l.length - 1 by omega]; exact hy77) hq69 (lN h8) hq75]; unfold aKc; rw [hq78]
      rw [hz]
      exact cF hM (View.le_trans hV69 hV78) ⟨_,_,_,_,_,_,rfl,⟨k81,iM.nil,hls78,aLN hq75 hM.view k84⟩,hc69⟩
     ·
      refine aAn 189 #[(tV y77 a77 c77)] (aDu RlR 1 eA (aIw y77)) (fun W hM => iG eA y77 _ _ W hM.view (hE.le hV69) hts77 (hwd y77 (List.mem_of_getElem? hy77)).1 (hwd y77 (List.mem_of_getElem? hy77)).2) (fun v89 V89 hV89 hP89 => ?_)
      obtain ⟨hq89,e89,rfl⟩ := (hP89).none h10
      refine zq 4 (aY 0 b0 (zq 1 (zn (zB [1,0] [(b0,8)] (aY 0 b0 (zq 1 (zn (aA (dU [1,0] [(b0,8)] [(.agg #[(.slice a69 l69.length c69),(L6 (min y73.n 65536)),(I6 e75.s),(St e75.l),(N6 e75.n),(N6 e75.v),S0,S0]),(Er.V eA e89)] (fun W' hM => ?_))))))))))
      have hz : asR l = none := by rw [aNH oW hy68 hy73 hy74 (by rw [show 4 = l.length - 1 by omega]; exact hy77) hq69 (lN h8) hq75]; unfold aKc; rw [hq89]
      rw [hz]
      exact cF hM (View.le_trans hV69 hV89) ⟨_,_,_,_,_,_,_,_,_,_,_,_,_,_,e89,rfl⟩
    ·
     have hq100 := Option.not_isSome_iff_eq_none.1 (by rw [h9]; exact Bool.false_ne_true)
     refine dA 187 #[(tV y74 a74 c74)] (.tuple #[(.agg #[(I6 0),(St []),(U6 0),(U6 0)]),(I6 2)]) (fun W hM => aGp hq100 _ W hM.view ht74) ?_
     refine zq 3 (cJ (fun b101 => (aY 1 b101 (zq 1 (zn (zs (zQ 2 (zn (dF (zs ?_))))))))))
     refine gU 0 [3,1] [(b0,8)] [.val (Er.V eA (Er.wrap [110,97,109,101] .leaf))] ⟨?_,trivial⟩ ?_
     · exact vC 184 #[(St [110,97,109,101])] (fun W hM => pI eA [110,97,109,101] W hM.view (hE.le hV69))
     refine aY 0 b0 (zq 1 (zn (aA (dU [1,0] [(b0,8)] [(.agg #[(.slice a69 l69.length c69),(L6 (min y73.n 65536)),(I6 0),(St []),(U6 0),(U6 0),S0,S0]),(Er.V eA (Er.wrap [110,97,109,101] .leaf))] (fun W' hM => ?_)))))
     have hz : asR l = none := aNF hy74 hq100
     rw [hz]
     exact cF hM hV69 ⟨_,_,_,_,_,_,_,_,_,_,_,_,_,_,(Er.wrap [110,97,109,101] .leaf),rfl⟩
   ·
    refine dA 186 #[(tV y73 a73 c73)] (.tuple #[(I6 0),(Er.V eA (Er.wrap [110,117,109,98,101,114] .leaf))]) (fun W hM => aF7 eA y73 _ _ W hM.view (hE.le hV69) h8) ?_
    refine zq 4 (aY 0 b0 (zq 1 (zn (zQ 1 (cH (.bool true) (qU .neq true _ _ _ _ rfl (Or.inr ⟨rfl,rfl⟩) kR eA (Er.wrap [110,117,109,98,101,114] .leaf) kR kR) ?_)))))
    refine zn (dF (zB [1,0] [(b0,8)] (aY 0 b0 (zq 1 (zn (aA (dU [1,0] [(b0,8)] [(.agg #[(.slice a69 l69.length c69),(I6 0),(I6 0),(St []),(U6 0),(U6 0),S0,S0]),(Er.V eA (Er.wrap [110,117,109,98,101,114] .leaf))] (fun W' hM => ?_))))))))
    have hz : asR l = none := aNG hy73 (sO h8)
    rw [hz]
    exact cF hM hV69 ⟨_,_,_,_,_,_,_,_,_,_,_,_,_,_,(Er.wrap [110,117,109,98,101,114] .leaf),rfl⟩
  ·
   refine aAn 185 #[(tV y68 a68 c68)] (aDu InR 1 eA (aEC y68)) (fun W hM => iF eA y68 _ _ W hM.view hE hts68 (hwd y68 (List.mem_of_getElem? hy68)).1) (fun v102 V102 hV102 hP102 => ?_)
   obtain ⟨hq102,e102,rfl⟩ := (hP102).none h7
   refine zq 4 (aY 0 b0 (zq 1 (zn (zQ 1 (cH (.bool true) (qU .neq true _ _ _ _ rfl (Or.inr ⟨rfl,rfl⟩) kR eA e102 kR kR) ?_)))))
   refine zn (dF (zB [1,0] [(b0,8)] (aY 0 b0 (zq 1 (zn (aA (dU [1,0] [(b0,8)] [(.agg #[S0,(I6 0),(I6 0),(St []),(U6 0),(U6 0),S0,S0]),(Er.V eA e102)] (fun W' hM => ?_))))))))
   have hz : asR l = none := aNE hy68 hq102
   rw [hz]
   exact cF hM hV102 ⟨_,_,_,_,_,_,_,_,_,_,_,_,_,_,e102,rfl⟩
structure Op where
 k : Int
 n : Int
 t : Int
def Op.cs (o : Op) : List Value := [.int .i64 o.k, .int .i64 o.n, .int .i64 o.t]
def Op.V (o : Op) : Value := .agg o.cs.toArray
def OpR (_ : View) (o : Op) (cs : List Value) : Prop := cs = o.cs
instance opR : RecOk OpR 3 := ⟨fun _ h => h, fun h => by rw [h]; rfl, fun h u hu => by
 rw [h] at hu
 simp only [Op.cs, List.mem_cons, List.mem_nil_iff, or_false] at hu
 rcases hu with rfl | rfl | rfl <;> rfl⟩
open Classical in
noncomputable def gE (s : List UInt8) : Option As := if h : ∃ a : As, a.ok ∧ a.right = true ∧ a.bytes = s then some h.choose else none
theorem aFg {a : As} (ho : a.ok) (h : a.right = true) : gE a.bytes = some a := by
 have hx : ∃ b : As, b.ok ∧ b.right = true ∧ b.bytes = a.bytes := ⟨a, ho, h, rfl⟩
 unfold gE
 rw [dif_pos hx]
 obtain ⟨h1, h2, h3⟩ := hx.choose_spec
 rw [bytes_inj h2 h h1 ho h3]
theorem oM {s : List UInt8} {a : As} (h : gE s = some a) : a.ok ∧ a.right = true ∧ a.bytes = s := by
 unfold gE at h
 split at h
 ·
  next hx =>
  obtain rfl := Option.some.inj h
  exact hx.choose_spec
 · cases h
theorem rF {s : List UInt8} (h : ∀ a : As, a.ok → a.right = true → a.bytes ≠ s) : gE s = none := by
 unfold gE
 rw [dif_neg fun ⟨a, h1, h2, h3⟩ => h a h1 h2 h3]
def opsOf (kind n : Int) (ts : List Int) : List Op := ts.map fun t => ⟨kind, n, t⟩
noncomputable def lS (typ kind ctx : Int) (out : Bk → Bool) : List Bk → Option (List Op)
 | [] => some []
 | x :: l => if x.t != typ || out x then lS typ kind ctx out l else match gE x.d with
  | none => none
  | some a => if a.c != ctx then none else match lS typ kind ctx out l with
   | none => none
   | some r => some (opsOf kind x.n a.t ++ r)
def eK (l : List Op) (kind target : Int) : Bool := l.any fun o => o.k == kind && o.t == target
noncomputable def aCg (l : List Bk) : Option (List Op) := match lS 12 2 2 (fun _ => false) l with
 | none => none
 | some se => match lS 11 1 1 (fun x => eK se 2 x.n) l with
  | none => none
  | some si => some (se ++ si)
def sF (x : Bk) : Bool := x.t == 11 || x.t == 12
def lA (x : Bk) : Bool := x.t == 6 || x.t == 7 || x.t == 10
def mK (p : Pr) (l : List Bk) : Bool := (gC .u64 p.f 1 == 0) || !(l.any sF)
def oY (l : List Bk) (ops : List Op) : Bool := ops.all fun o => (aJ l o.t).2 || o.t == 0
def aAz (pre : List Op) : List Op → Bool
 | [] => true
 | o :: r => if eK pre o.k o.t then false else aAz (pre ++ [o]) r
def pA (l : List Bk) (pre : List Op) : List Op → Bool
 | [] => true
 | o :: r => if o.k != 2 then pA l (pre ++ [o]) r else if (pre.any fun q => q.k == 2 && q.n == o.n) || o.t == 0 || (aJ l o.t).1.t == 12 || lA (aJ l o.t).1 then false else pA l (pre ++ [o]) r
def sD (l : List Bk) (ops : List Op) (o : Op) : Bool := o.k != 1 || o.t == 0 || !(sF (aJ l o.t).1 || lA (aJ l o.t).1 || eK ops 2 o.t)
def pM (l : List Bk) (ops : List Op) : Bool := ops.all (sD l ops)
def aDZ (p : Pr) (l : List Bk) (ops : List Op) : Int := if mK p l && oY l ops && aAz [] ops && pA l [] ops && pM l ops then 0 else 8
noncomputable def jP (p : Pr) (l : List Bk) : Int := if aZ p l != 0 then aZ p l else match aCg l with
 | none => 2
 | some ops => aDZ p l ops
def pK (pre : List Int) : List Int → Bool
 | [] => false
 | n :: r => if pre.contains n then true else pK (pre ++ [n]) r
def fI (l : List Bk) (kind : Int) (ts : List Int) : Int := if (kind != 1 && kind != 2) || ts.length == 0 then 1 else if pK [] ts then 1 else if ts.all (fun t => (aJ l t).2 || t == 0) then 0 else 15
noncomputable def aIX (l : List Bk) (kind : Int) (ts : List Int) : List Op := (((aCg l).getD []) ++ opsOf kind (dX l : Int) ts).filter fun o => !(kind == 2 && o.k == 1 && o.n == ts.headD 0)
noncomputable def aDw (p : Pr) (l : List Bk) (kind : Int) (ts : List Int) : Int := if jP p l != 0 then jP p l else if fI l kind ts != 0 then fI l kind ts else if gC .u64 p.f 1 != 0 then 8 else aDZ p l (aIX l kind ts)
def qQ (p : Nat) (ps : Ps) (x : Option (Itm.Tr × Nat)) (v : Value) (V : View) (σ : aF) : Prop := ∃ t cs ps', v = .agg cs.toArray ∧ TV V t cs ∧ σ = [(p, Ps.O ps')] ∧ ps'.b = ps.b ∧ match x with
 | some (t', k) => t = t' ∧ ps'.at_ = ps.at_ + k ∧ ps'.e = 0
 | none => ps'.e ≠ 0
theorem qQ.mono {p : Nat} {ps : Ps} {x : Option (Itm.Tr × Nat)} {v : Value} {V V' : View} {σ : aF} (h : View.le V V') (hx : qQ p ps x v V σ) : qQ p ps x v V' σ := by
 obtain ⟨t, cs, ps', e, ht, r⟩ := hx
 exact ⟨t, cs, ps', e, ht.le h, r⟩
theorem iH {p : Nat} {ps : Ps} {V : View} {at_ : Nat} {e : Int} (hp : ps.e = 0) (he : e ≠ 0) : qQ p ps none itZ V [(p, (ps.fail at_ e).O)] := by
 refine ⟨Itm.cN 0, _, ps.fail at_ e, rfl, TV.num V 0 (by decide), rfl, ?_, ?_⟩ <;> unfold Ps.fail <;> rw [if_pos (by rw [hp]; rfl)]
 exact he
theorem aNk (rd : Rd) (r k : Nat) {W0 : Cx} {U : View} {σ : aF} {W : World} (hM : Mem W0 U σ W) (hk : σ[k]? = some (r, rd.O)) : CP 214 #[.pointer (some ⟨r, 0, none⟩)] W (Ret (.int .i64 (rd.at_ : Int)) W) := by
 obtain ⟨V, _, h2, h3⟩ := hM.peek k r rd.cs _ hk
 exact aKL rd r W h3 h2
theorem aN4 (ps : Ps) (p : Nat) (n z : Nat) (o : Bool) (X : List UInt8 × Rd) (hp : ps.ok) (he : ps.e = 0) (hx : hdF ps.rest = some (2, n, o, z)) (hX : aBN ps.rest n z o 1073741824 = X) {W0 : Cx} {U : View} {σF : aF} {W : World} (hM : Mem W0 U ([(p, ps.O)] ++ σF) W) : CP 215 #[.pointer (some ⟨p, 0, none⟩), .int .i64 2] W (fN W0 U σF (qQ p ps (lT 2 X))) := by
 have hle := hp.le
 have hlen := hp.len
 unfold R47 at hlen
 have hrl : ps.rest.length = ps.b.length - ps.at_ := List.length_drop
 have hXl := aAF (most := 1073741824) hx
 rw [hX] at hXl
 have hM2 : Mem W0 U ([(bK p [(St ps.b),(I6 (ps.at_ : Int)),(I6 ps.e)] 245)] ++ σF) W := hM.eqv kR
 refine eC 45 Tryz.func215 hM2 ?_
 refine zs (zr (dN 1 (fun b0 => ?_)))
 refine zn (zQ 1 (dI 0 (fun W hM => dD ps p hp hM) (fun v1 V1 s1 hV1 hP1 => ?_)))
 obtain ⟨r1,rfl,rfl⟩ := hP1
 refine zq 1 (zn (zQ 2 (dN 3 (fun b2 => ?_))))
 refine aY 3 b2 (zn (zs (zQ 2 (zn (dF (zr (zq 1 (gF 0 (r1,(Rd.new ps.rest).O) 239 #[(Pt r1 0),(I6 1073741824)] (aJ1 r1 X) (fun W hM => hX ▸ aGY ps.rest r1 n z 1073741824 o hx (Ps.rest_len hp) (by decide) hM) (fun v3 V3 s3 hV3 hP3 => ?_)))))))))
 obtain ⟨rfl,rfl⟩ := hP3
 refine zq 1 (aY 3 b2 (zn (zs (zQ 1 (dI 0 (x := (r1,X.2.O)) (fun W hM => eZ X.2 r1 (hM.eqv kR)) (fun v4 V4 s4 hV4 hP4 => ?_))))))
 obtain ⟨rfl,rfl⟩ := hP4
 refine zq 5 (zn (zQ 2 (zn (cD (X.2.e != 0) (fun h0 => ?_) (fun h0 => ?_)))))
 ·
  have h0d := bne_iff_ne.1 h0
  refine zB [0,0,0,0,2,0] [(p,1)] (dI 1 (x := (bK p [(St ps.b),(I6 (ps.at_ : Int)),(I6 ps.e)] 245)) (fun W hM => gG ps p ps.at_ X.2.e (hM.eqv kR)) (fun v5 V5 s5 hV5 hP5 => ?_))
  obtain ⟨rfl,rfl⟩ := hP5
  refine aY 2 b0 (zn (aA (dU [3] [(b0,5)] [(.agg #[(I6 0),(U6 0),(St []),S0,(.bool false)])] (fun W' hM => ?_))))
  have hne := bne_iff_ne.1 h0
  have hz : lT 2 X = none := by unfold lT; rw [if_neg (by simpa using hne)]
  rw [hz]
  exact dP 0 4 _ hM (View.le_trans (View.le_trans (View.le_trans hV1 hV3) hV4) hV5) (iH (at_ := ps.at_) (e := X.2.e) he hne)
 ·
  have h0d := bne_eq_false_iff_eq.1 h0
  refine zk (zs ?_)
  refine gU 3 [0,0,0,4,0,1] [(p,1)] [.val (I6 (X.2.at_ : Int))] ⟨?_,trivial⟩ ?_
  · exact vC 214 #[(Pt r1 0)] (fun W hM => aNk X.2 r1 0 hM kR)
  refine zq 1 (eV 41 ((ps.at_ : Int) + (X.2.at_ : Int)) (zq 2 (aY 1 p (zn (zB [4] [(b2,5)] (aY 2 b0 (zn (aA (dU [3] [(b0,5)] [(.agg #[(I6 2),(U6 0),(St X.1),S0,(.bool false)])] (fun W' hM => ?_))))))))))
  have heq := bne_eq_false_iff_eq.1 h0
  have hz : lT 2 X = some (.mk 2 0 X.1 [] false,X.2.at_) := by unfold lT; rw [if_pos (by rw [heq]; rfl)]
  rw [hz]
  exact dP 1 4 _ hM (View.le_trans (View.le_trans hV1 hV3) hV4) ⟨_,_,⟨ps.b,ps.at_ + X.2.at_,ps.e⟩,rfl,TV.str _ X.1 (by unfold R47; omega),rfl,rfl,rfl,rfl,he⟩
theorem aN3 (ps : Ps) (p : Nat) (n z : Nat) (o : Bool) (X : List UInt8 × Rd) (hp : ps.ok) (he : ps.e = 0) (hx : hdF ps.rest = some (3, n, o, z)) (hX : aBN ps.rest n z o 1073741824 = X) {W0 : Cx} {U : View} {σF : aF} {W : World} (hM : Mem W0 U ([(p, ps.O)] ++ σF) W) : CP 215 #[.pointer (some ⟨p, 0, none⟩), .int .i64 3] W (fN W0 U σF (qQ p ps (lT 3 X))) := by
 have hle := hp.le
 have hlen := hp.len
 unfold R47 at hlen
 have hrl : ps.rest.length = ps.b.length - ps.at_ := List.length_drop
 have hXl := aAF (most := 1073741824) hx
 rw [hX] at hXl
 have hM2 : Mem W0 U ([(bK p [(St ps.b),(I6 (ps.at_ : Int)),(I6 ps.e)] 245)] ++ σF) W := hM.eqv kR
 refine eC 45 Tryz.func215 hM2 ?_
 refine zs (zr (dN 1 (fun b0 => ?_)))
 refine zn (zQ 1 (dI 0 (fun W hM => dD ps p hp hM) (fun v1 V1 s1 hV1 hP1 => ?_)))
 obtain ⟨r1,rfl,rfl⟩ := hP1
 refine zq 1 (zn (zQ 2 (dN 3 (fun b2 => ?_))))
 refine aY 3 b2 (zn (zs (zQ 2 (zn (dE (zr (zq 1 (gF 0 (r1,(Rd.new ps.rest).O) 240 #[(Pt r1 0),(I6 1073741824)] (aJ1 r1 X) (fun W hM => hX ▸ aID ps.rest r1 n z 1073741824 o hx (Ps.rest_len hp) (by decide) hM) (fun v3 V3 s3 hV3 hP3 => ?_)))))))))
 obtain ⟨rfl,rfl⟩ := hP3
 refine zq 1 (aY 3 b2 (zn (zs (zQ 1 (dI 0 (x := (r1,X.2.O)) (fun W hM => eZ X.2 r1 (hM.eqv kR)) (fun v4 V4 s4 hV4 hP4 => ?_))))))
 obtain ⟨rfl,rfl⟩ := hP4
 refine zq 5 (zn (zQ 2 (zn (cD (X.2.e != 0) (fun h0 => ?_) (fun h0 => ?_)))))
 ·
  have h0d := bne_iff_ne.1 h0
  refine zB [0,0,0,0,2,0] [(p,1)] (dI 1 (x := (bK p [(St ps.b),(I6 (ps.at_ : Int)),(I6 ps.e)] 245)) (fun W hM => gG ps p ps.at_ X.2.e (hM.eqv kR)) (fun v5 V5 s5 hV5 hP5 => ?_))
  obtain ⟨rfl,rfl⟩ := hP5
  refine aY 2 b0 (zn (aA (dU [3] [(b0,5)] [(.agg #[(I6 0),(U6 0),(St []),S0,(.bool false)])] (fun W' hM => ?_))))
  have hne := bne_iff_ne.1 h0
  have hz : lT 3 X = none := by unfold lT; rw [if_neg (by simpa using hne)]
  rw [hz]
  exact dP 0 4 _ hM (View.le_trans (View.le_trans (View.le_trans hV1 hV3) hV4) hV5) (iH (at_ := ps.at_) (e := X.2.e) he hne)
 ·
  have h0d := bne_eq_false_iff_eq.1 h0
  refine zk (zs ?_)
  refine gU 3 [0,0,0,4,0,1] [(p,1)] [.val (I6 (X.2.at_ : Int))] ⟨?_,trivial⟩ ?_
  · exact vC 214 #[(Pt r1 0)] (fun W hM => aNk X.2 r1 0 hM kR)
  refine zq 1 (eV 41 ((ps.at_ : Int) + (X.2.at_ : Int)) (zq 2 (aY 1 p (zn (zB [4] [(b2,5)] (aY 2 b0 (zn (aA (dU [3] [(b0,5)] [(.agg #[(I6 3),(U6 0),(St X.1),S0,(.bool false)])] (fun W' hM => ?_))))))))))
  have heq := bne_eq_false_iff_eq.1 h0
  have hz : lT 3 X = some (.mk 3 0 X.1 [] false,X.2.at_) := by unfold lT; rw [if_pos (by rw [heq]; rfl)]
  rw [hz]
  exact dP 1 4 _ hM (View.le_trans (View.le_trans hV1 hV3) hV4) ⟨_,_,⟨ps.b,ps.at_ + X.2.at_,ps.e⟩,rfl,TV.txt _ X.1 (by unfold R47; omega),rfl,rfl,rfl,rfl,he⟩
def tM (d : Nat) : Prop := ∀ (ps : Ps) (p : Nat), ps.ok → ps.e = 0 → ∀ {W0 : Cx} {U : View} {σF : aF} {W : World}, Mem W0 U ([(p, ps.O)] ++ σF) W → CP 181 #[.pointer (some ⟨p, 0, none⟩), .int .i64 (d : Int)] W (fN W0 U σF (qQ p ps (itF d ps.rest)))
structure Lp where
 r : Rw
 xs : List Value
 m : Nat
 L : List (Itm.Tr × List Value)
 ps : Ps
 V : View
def aFu (a : List Itm.Tr) (k : Nat) : Option (List Itm.Tr × Nat) → Option (List Itm.Tr × Nat)
 | none => none
 | some (ts, j) => some (a ++ ts, k + j)
structure aKd (G : Nat → List UInt8 → Option (List Itm.Tr × Nat)) (ps : Ps) (x : Lp) : Prop where
 b : x.ps.b = ps.b
 ok : x.ps.e = 0 → x.ps.ok
 at_ : x.ps.e = 0 → ps.at_ ≤ x.ps.at_
 go : x.ps.e = 0 → aFu (x.L.map Prod.fst) (x.ps.at_ - ps.at_) (G x.m x.ps.rest) = G 0 ps.rest
 no : x.ps.e ≠ 0 → G 0 ps.rest = none
def aHK (f : List UInt8 → Option (Itm.Tr × Nat)) (G : Nat → List UInt8 → Option (List Itm.Tr × Nat)) (i : Nat) (s : List UInt8) : Prop := G i s = match f s with
 | none => none
 | some (t, k) => aFu [t] k (G (i + 1) (s.drop k))
theorem aKd.zero {G : Nat → List UInt8 → Option (List Itm.Tr × Nat)} {ps : Ps} (hp : ps.ok) (he : ps.e = 0) {V : View} : aKd G ps ⟨Rw.nil, [], 0, [], ps, V⟩ :=
 ⟨rfl, fun _ => hp, fun _ => Nat.le_refl _, fun _ => by
  show aFu [] (ps.at_ - ps.at_) (G 0 ps.rest) = _
  rw [Nat.sub_self]
  cases G 0 ps.rest with
  | none => rfl
  | some q => simp [aFu], fun h => absurd he h⟩
theorem aKd.step {f : List UInt8 → Option (Itm.Tr × Nat)} {G : Nat → List UInt8 → Option (List Itm.Tr × Nat)} (hf : ∀ s t k, f s = some (t, k) → k ≤ s.length) {ps ps' : Ps} {x : Lp} (h : aKd G ps x) (he : x.ps.e = 0) (hs : aHK f G x.m x.ps.rest) {t : Itm.Tr} {cs xs : List Value} {r : Rw} {V : View} (hb : ps'.b = x.ps.b)
  (hx : match f x.ps.rest with
   | some (_, k) => ps'.at_ = x.ps.at_ + k ∧ ps'.e = 0
   | none => ps'.e ≠ 0) (ht : ∀ t' k, f x.ps.rest = some (t', k) → t = t') : aKd G ps ⟨r, xs, x.m + 1, x.L ++ [(t, cs)], ps', V⟩ := by
 have hgo := h.go he
 have hok := h.ok he
 have hat := h.at_ he
 unfold aHK at hs
 cases hq : f x.ps.rest with
 | none =>
  rw [hq] at hx hs
  simp only at hx hs
  rw [hs] at hgo
  exact ⟨hb.trans h.b, fun e => absurd e hx, fun e => absurd e hx, fun e => absurd e hx, fun _ => hgo.symm⟩
 | some q =>
  obtain ⟨t', k⟩ := q
  rw [hq] at hx hs
  simp only at hx hs
  obtain ⟨h2, h3⟩ := hx
  obtain rfl := ht t' k hq
  have hk := hf _ _ _ hq
  have hrl : x.ps.rest.length = x.ps.b.length - x.ps.at_ := List.length_drop
  have hle := hok.le
  refine ⟨hb.trans h.b, fun _ => ⟨by rw [h2, hb]; omega, by rw [hb]; exact hok.len⟩, fun _ => by show ps.at_ ≤ ps'.at_; omega, fun _ => ?_, fun e => absurd h3 e⟩
  rw [hs] at hgo
  rw [← hgo]
  have hr : ps'.rest = x.ps.rest.drop k := by unfold Ps.rest; rw [hb, h2, List.drop_drop]
  show aFu ((x.L ++ [(t, cs)]).map Prod.fst) (ps'.at_ - ps.at_) (G (x.m + 1) ps'.rest) = _
  rw [hr]
  cases G (x.m + 1) (x.ps.rest.drop k) with
  | none => rfl
  | some q =>
   obtain ⟨ts, j⟩ := q
   simp only [aFu, List.map_append, List.map_cons, List.map_nil, List.append_assoc]
   congr 2
   omega
def rI (f : List UInt8 → Option (Itm.Tr × Nat)) (n i : Nat) (s : List UInt8) : Option (List Itm.Tr × Nat) := gR f (n - i) s
def aCZ (f : List UInt8 → Option (Itm.Tr × Nat)) (i : Nat) (s : List UInt8) : Option (List Itm.Tr × Nat) := oP f (1000 - i) s
theorem aEn {f : List UInt8 → Option (Itm.Tr × Nat)} {n i : Nat} (h : i < n) (s : List UInt8) : aHK f (rI f n) i s := by
 unfold aHK rI
 rw [show n - i = (n - (i + 1)) + 1 by omega, gR]
 cases f s with
 | none => rfl
 | some q =>
  obtain ⟨t, k⟩ := q
  simp only
  cases gR f (n - (i + 1)) (s.drop k) with
  | none => rfl
  | some q => rfl
theorem aG8 {f : List UInt8 → Option (Itm.Tr × Nat)} {i : Nat} {s : List UInt8} (h : i < 1000) (hb : aDq s = false) : aHK f (aCZ f) i s := by
 unfold aHK aCZ
 rw [show 1000 - i = (1000 - (i + 1)) + 1 by omega, oP, hb]
 simp only [Bool.false_eq_true, if_false]
 cases f s with
 | none => rfl
 | some q =>
  obtain ⟨t, k⟩ := q
  simp only
  cases oP f (1000 - (i + 1)) (s.drop k) with
  | none => rfl
  | some q => rfl
def aAD (x : Option (Itm.Tr × Nat)) (v : Value) (V : View) : Prop := ∃ t cs, v = .agg cs.toArray ∧ TV V t cs ∧ ∀ t' k, x = some (t', k) → t = t'
def aAj (x : Option (Itm.Tr × Nat)) (v : Value) (V : View) : Prop := ∃ t cs g, v = .slice (some ⟨g, 0, none⟩) 1 1 ∧ V.range g 0 cs ∧ TV V t cs ∧ ∀ t' k, x = some (t', k) → t = t'
theorem qQ.one {p : Nat} {ps : Ps} {x : Option (Itm.Tr × Nat)} {v : Value} {V : View} {σ : aF} (h : qQ p ps x v V σ) : aAD x v V := by
 obtain ⟨t, cs, ps', e, ht, _, _, hx⟩ := h
 refine ⟨t, cs, e, ht, fun t' k hq => ?_⟩
 subst hq
 exact hx.1
theorem aAD.mono {x : Option (Itm.Tr × Nat)} {v : Value} {V V' : View} (hl : View.le V V') (h : aAD x v V) : aAD x v V' := by
 obtain ⟨t, cs, e, ht, hx⟩ := h
 exact ⟨t, cs, e, ht.le hl, hx⟩
theorem aAj.mono {x : Option (Itm.Tr × Nat)} {v : Value} {V V' : View} (hl : View.le V V') (h : aAj x v V) : aAj x v V' := by
 obtain ⟨t, cs, g, e, hg, ht, hx⟩ := h
 exact ⟨t, cs, g, e, View.range_le hl hg, ht.le hl, hx⟩
def aOL (p : Nat) (ps : Ps) (x : Option (Itm.Tr × Nat)) (σ : aF) : Prop := ∃ ps', σ = [(p, Ps.O ps')] ∧ ps'.b = ps.b ∧ match x with
 | some (_, k) => ps'.at_ = ps.at_ + k ∧ ps'.e = 0
 | none => ps'.e ≠ 0
theorem qQ.at_ {p : Nat} {ps : Ps} {x : Option (Itm.Tr × Nat)} {v : Value} {V : View} {σ : aF} (h : qQ p ps x v V σ) : aOL p ps x σ := by
 obtain ⟨t, cs, ps', e, ht, h1, h2, hx⟩ := h
 refine ⟨ps', h1, h2, ?_⟩
 cases x with
 | none => exact hx
 | some q => exact ⟨hx.2.1, hx.2.2⟩
theorem aI2 {G : Nat → List UInt8 → Option (List Itm.Tr × Nat)} {ps ps' : Ps} {x : Lp} {p : Nat} {V : View} {v : Value} {cs : List Value} {o : Bool} {j : Nat} (h : aKd G ps x) (he : x.ps.e = 0) (hg : G x.m x.ps.rest = some ([], j)) (hv : v = .agg cs.toArray) (hT : TV V (.mk 4 0 [] (x.L.map Prod.fst) o) cs) (hb : ps'.b = x.ps.b) (ha : ps'.at_ = x.ps.at_ + j) (he' : ps'.e = 0) :
  qQ p ps (pG o 0 (G 0 ps.rest)) v V [(p, ps'.O)] := by
 have hgo := h.go he
 have hat := h.at_ he
 rw [hg] at hgo
 rw [← hgo]
 refine ⟨_, cs, ps', hv, hT, rfl, hb.trans h.b, ?_⟩
 simp only [pG, aFu, List.append_nil, true_and]
 exact ⟨by omega, he'⟩
theorem aFn {G : Nat → List UInt8 → Option (List Itm.Tr × Nat)} {ps ps' : Ps} {p : Nat} {V : View} {v : Value} {cs : List Value} {t : Itm.Tr} {o : Bool} (hg : G 0 ps.rest = none) (hv : v = .agg cs.toArray) (hT : TV V t cs) (hb : ps'.b = ps.b) (he' : ps'.e ≠ 0) : qQ p ps (pG o 0 (G 0 ps.rest)) v V [(p, ps'.O)] := by
 rw [hg]
 exact ⟨t, cs, ps', hv, hT, rfl, hb, he'⟩
theorem aFj (ps : Ps) (p : Nat) (hp : ps.ok) {W0 : Cx} {U : View} {σF : aF} {W : World} (hM : Mem W0 U ([(p, ps.O)] ++ σF) W) : CP 242 #[.pointer (some ⟨p, 0, none⟩)] W (fN W0 U σF fun v _ σ' => v = .bool (aDq ps.rest) ∧ σ' = [(p, ps.O)]) := by
 cases hx : hdF ps.rest with
 | none => exact aG7 ps p hp hx hM
 | some q =>
  obtain ⟨m, n, o, z⟩ := q
  exact aG6 ps p m n z o hp hx hM
theorem aDS (d : Nat) (n : Nat) (hn : n ≤ 1000) (hdl : d ≤ 1000) (hI : tM d) (ps : Ps) (p : Nat) (hp : ps.ok) (he : ps.e = 0) {W0 : Cx} {U : View} {σF : aF} {W : World} (hM : Mem W0 U ([(p, ps.O)] ++ σF) W) : CP 217 #[.pointer (some ⟨p, 0, none⟩), .int .i64 (n : Int), .int .i64 ((d + 1 : Nat) : Int)] W (fN W0 U σF (qQ p ps (pG false 0 ((rI (itF d) n) 0 ps.rest)))) := by
 have hn0 : decide ((n : Int) < 0) = false := decide_eq_false oW
 have hd1 : IntKind.i64.wrap (((d + 1 : Nat) : Int) - 1) = (d : Int) := by rw [IntWalk.i64_in _ oW]; omega
 have hM2 : Mem W0 U ([(bK p [(St ps.b),(I6 (ps.at_ : Int)),(I6 ps.e)] 245)] ++ σF) W := hM.eqv kR
 refine eC 57 Tryz.func217 hM2 ?_
 refine zs (zr (dN 1 (fun b0 => ?_)))
 refine zn (zQ 2 (eE 9 (.bool (decide ((n : Int) < 0))) (.bool false) (congrArg Value.bool hn0) ?_))
 refine zq 1 (dN 2 (fun b1 => ?_))
 refine aY 2 b1 (zn (zs (aB (gX (α := Lp) (fun x => [0,1,2,6,7].zip [(Pt p 0),(I6 (n : Int)),(L6 (d + 1)),(Pt b0 0),(Pt b1 0)]) (fun x => x.V) (fun x => ([(bK p [(St x.ps.b),(I6 (x.ps.at_ : Int)),(I6 x.ps.e)] 245),(b0,.cells [(I6 0),(U6 0),(St []),S0,(.bool false)].toArray 89 (0,0)),(b1,.cells [(I6 4),(U6 0),(St []),(x.r.V x.m),(.bool false)].toArray 89 (0,0))] ++ σF ++ x.r.B 89 x.xs)) (fun x => View.le U x.V ∧ RwR TV 5 x.V x.r x.xs x.m x.L ∧ x.m ≤ n ∧ aKd (rI (itF d) n) ps x) (fun x => 1001 - x.m) ⟨Rw.nil,[],0,[],ps,U⟩ ?_ ?_ (hm := fun _ h => h.nilE)))))
 · exact ⟨View.le_refl _,RwR.nil,Nat.zero_le _,aKd.zero hp he⟩
 intro x hx
 obtain ⟨hxl,hxr,hxm,hx⟩ := hx
 refine zs (zB [0,0,0,1,0,0] [(p,1)] (aK 16 (x.ps.e == 0) (fun h0 => ?_) (fun h0 => ?_)))
 ·
  have h0d := eq_of_beq h0
  have he0 : x.ps.e = 0 := h0d
  have hle1 := (hx.ok he0).le
  have hln1 := (hx.ok he0).len
  unfold R47 at hln1
  refine cU [0,3] [(b1,1)] (cH (L6 x.m) (sG x.r 5 x.m x.xs hxr.ok (.tmp 18) 87 89 rfl kR kR) ?_)
  refine zq 3 (zn (cD ((x.m : Int) != (n : Int)) (fun h1 => ?_) (fun h1 => ?_)))
  ·
   have h1d := bne_iff_ne.1 h1
   refine zk (aB (zs (zQ 2 (eE 24 (.bool (decide ((n : Int) < 0))) (.bool false) (congrArg Value.bool hn0) ?_))))
   refine zq 4 (zn (dE (zk (zs (zB [0,3] [(b1,1)] (cH (L6 x.m) (sG x.r 5 x.m x.xs hxr.ok (.tmp 38) 87 89 rfl kR kR) ?_))))))
   refine zq 1 (zn (eS ((x.m : Int) == 1000) (beq_eq_false_iff_ne.2 oW) ?_))
   refine zk ?_
   refine aHw 2 5 [0,4,0,0,1,1,1] [(b1,1)] [.val (I6 (d : Int)),.mem (aAD (itF d x.ps.rest)),.mem (aAj (itF d x.ps.rest))] [(bK p [(St x.ps.b),(I6 (x.ps.at_ : Int)),(I6 x.ps.e)] 245)] ([] ++ ([(b0,.cells [(I6 0),(U6 0),(St []),S0,(.bool false)].toArray 89 (0,0)),(b1,.cells [(I6 4),(U6 0),(St []),(x.r.V x.m),(.bool false)].toArray 89 (0,0))] ++ σF ++ x.r.B 89 x.xs)) (qQ p x.ps (itF d x.ps.rest)) (sL [] ([(b0,.cells [(I6 0),(U6 0),(St []),S0,(.bool false)].toArray 89 (0,0)),(b1,.cells [(I6 4),(U6 0),(St []),(x.r.V x.m),(.bool false)].toArray 89 (0,0))] ++ σF ++ x.r.B 89 x.xs) (bK p [(St x.ps.b),(I6 (x.ps.at_ : Int)),(I6 x.ps.e)] 245) kR) rfl (by intro v V s2 h; exact h.one) (by intro v V V2 s2 h1 h2; exact h2.mono h1) (by simp only [List.forall_mem_cons]; exact ⟨trivial,by intro v V V2 hV2 hP; (first | trivial | exact aAD.mono hV2 hP | exact aAj.mono hV2 hP),by intro v V V2 hV2 hP; (first | trivial | exact aAD.mono hV2 hP | exact aAj.mono hV2 hP),fun _ h => by cases h⟩) ⟨?_,?_,?_,trivial⟩ ?_
   · exact nO fun σ' => wE (I6 (IntKind.i64.wrap (((d + 1 : Nat) : Int) - 1))) (congrArg (Value.int .i64) hd1)
   ·
    refine nC 181 (fun u => #[(Pt p 0),(I6 (d : Int))]) fun u V hV hdq W hM => ?_
    exact hI x.ps p (hx.ok he0) he0 (hM.eqv kR)
   ·
    refine nO fun σ' => wN [52] (fun u => [u 5]) fun u V hV hdq => ?_
    have e5 := hdq 5 kR rfl
    obtain ⟨t5,cs5,q5,ht5,hz5⟩ := e5
    obtain ⟨a5,c5,rfl,hts5,hn5,hs5,hl5⟩ := ht5.form
    refine ⟨(tC t5 a5 c5),89,fun r => (Sl r 0 1 1),?_,fun g V' hV' hR => ?_⟩
    · rw [q5]; kernel_rfl
    exact ⟨t5,_,g,rfl,hR,ht5.le hV',hz5⟩
   intro u2 V2 s2 hV2 hdq2 hP2
   have k3 := hxr.le hV2
   obtain ⟨z2,hz2⟩ : ∃ z,u2 5 = z := ⟨_,rfl⟩
   rw [hz2] at hP2
   obtain ⟨ps2,rfl,hb2,hy2⟩ := (hP2).at_
   have e6_2 := hdq2 6 rfl
   obtain ⟨t6_2,cs6_2,g6_2,q6_2,hg6_2,ht6_2,hz6_2⟩ := e6_2
   obtain ⟨a6_2,c6_2,rfl,hts6_2,hn6_2,hs6_2,hl6_2⟩ := ht6_2.form
   refine aLH 53 q6_2 ?_
   refine fV x.r x.xs x.m ([(bK p [(St ps2.b),(I6 (ps2.at_ : Int)),(I6 ps2.e)] 245),(b0,.cells [(I6 0),(U6 0),(St []),S0,(.bool false)].toArray 89 (0,0)),(b1,.cells [(I6 4),(U6 0),(St []),(x.r.V x.m),(.bool false)].toArray 89 (0,0))] ++ σF) 89 87 5 64 1 kR hxr.ok (.tmp 48) (.tmp 53) rfl kR g6_2 0 1 (tC t6_2 a6_2 c6_2) kR (fun W hM => View.range_of hg6_2 hM.view) rfl (List.all_eq_true.1 kR) (by decide) (by unfold maxLen; omega) oW kR kR kR kR kR (fun r4 hr4 => ?_)
   refine zq 1 ?_
   refine aL3 2 b1 3 (x.m + 1) 5 r4 (x.xs ++ (tC t6_2 a6_2 c6_2)) hr4 [(I6 4),(U6 0),(St []),(x.r.V x.m),(.bool false)] 89 87 _ _ rfl kR kR kR (fun a c => by kernel_rfl) kR rfl kR ?_
   refine zn ?_
   refine nx ⟨r4,(x.xs ++ (tC t6_2 a6_2 c6_2)),x.m + 1,x.L ++ [(t6_2,(tC t6_2 a6_2 c6_2))],ps2,V2⟩ ?_ ?_
   · exact ⟨(View.le_trans hxl hV2),RwR.snoc k3 ht6_2 hr4,by show x.m + 1 ≤ n; omega,hx.step (rG d) he0 (aEn oW _) hb2 hy2 hz6_2⟩
   · show 1001 - (x.m + 1) < 1001 - x.m; omega
  ·
   have h1d := bne_eq_false_iff_eq.1 h1
   refine aU (zs (zr ?_))
   refine pL x.r x.xs 5 x.m ([(bK p [(St x.ps.b),(I6 (x.ps.at_ : Int)),(I6 x.ps.e)] 245),(b0,.cells [(I6 0),(U6 0),(St []),S0,(.bool false)].toArray 89 (0,0)),(b1,.cells [(I6 4),(U6 0),(St []),(x.r.V x.m),(.bool false)].toArray 89 (0,0))] ++ σF) 89 kR hxr.ok (fun a5 c5 V5 hV5 hR5 hE5 => ?_)
   rw [hE5]
   have k6 := hxr.le hV5
   refine cU [3] [(b1,5)] (aY 1 b0 (zn (aA (dU [2] [(b0,5)] [(.agg #[(I6 4),(U6 0),(St []),(.slice a5 x.m c5),(.bool false)])] (fun W' hM => ?_)))))
   have hT2 := k6.arr c5 hR5 (View.le_refl _) (by unfold R47; omega) false
   refine dP 0 3 (bK p [(St x.ps.b),(I6 (x.ps.at_ : Int)),(I6 x.ps.e)] 245) hM (View.le_trans hxl hV5) ?_
   exact aI2 hx he0 (ps' := x.ps) (show (rI (itF d) n) x.m x.ps.rest = some ([],0) from by unfold rI; rw [show n - x.m = 0 by omega]; rfl) rfl hT2 rfl rfl he0
 ·
  have h0d := beq_eq_false_iff_ne.1 h0
  refine zq 6 (zn (dE (aU (zs (zr ?_)))))
  refine pL x.r x.xs 5 x.m ([(bK p [(St x.ps.b),(I6 (x.ps.at_ : Int)),(I6 x.ps.e)] 245),(b0,.cells [(I6 0),(U6 0),(St []),S0,(.bool false)].toArray 89 (0,0)),(b1,.cells [(I6 4),(U6 0),(St []),(x.r.V x.m),(.bool false)].toArray 89 (0,0))] ++ σF) 89 kR hxr.ok (fun a7 c7 V7 hV7 hR7 hE7 => ?_)
  rw [hE7]
  have k8 := hxr.le hV7
  refine cU [3] [(b1,5)] (aY 1 b0 (zn (aA (dU [2] [(b0,5)] [(.agg #[(I6 4),(U6 0),(St []),(.slice a7 x.m c7),(.bool false)])] (fun W' hM => ?_)))))
  have hT2 := k8.arr c7 hR7 (View.le_refl _) (by unfold R47; omega) false
  refine dP 0 3 (bK p [(St x.ps.b),(I6 (x.ps.at_ : Int)),(I6 x.ps.e)] 245) hM (View.le_trans hxl hV7) ?_
  exact aFn (ps' := x.ps) (hx.no (by simpa using h0)) rfl hT2 hx.b (by simpa using h0)
theorem aG4 (d : Nat) (hdl : d ≤ 1000) (hI : tM d) (ps : Ps) (p : Nat) (hp : ps.ok) (he : ps.e = 0) {W0 : Cx} {U : View} {σF : aF} {W : World} (hM : Mem W0 U ([(p, ps.O)] ++ σF) W) : CP 217 #[.pointer (some ⟨p, 0, none⟩), .int .i64 (-1), .int .i64 ((d + 1 : Nat) : Int)] W (fN W0 U σF (qQ p ps (pG true 0 ((aCZ (itF d)) 0 ps.rest)))) := by
 have hd1 : IntKind.i64.wrap (((d + 1 : Nat) : Int) - 1) = (d : Int) := by rw [IntWalk.i64_in _ oW]; omega
 have hM2 : Mem W0 U ([(bK p [(St ps.b),(I6 (ps.at_ : Int)),(I6 ps.e)] 245)] ++ σF) W := hM.eqv kR
 refine eC 57 Tryz.func217 hM2 ?_
 refine zs (zr (dN 1 (fun b0 => ?_)))
 refine zn (zQ 3 (dN 2 (fun b1 => ?_)))
 refine aY 2 b1 (zn (zs (aB (gX (α := Lp) (fun x => [0,1,2,6,7].zip [(Pt p 0),(I6 (-1)),(L6 (d + 1)),(Pt b0 0),(Pt b1 0)]) (fun x => x.V) (fun x => ([(bK p [(St x.ps.b),(I6 (x.ps.at_ : Int)),(I6 x.ps.e)] 245),(b0,.cells [(I6 0),(U6 0),(St []),S0,(.bool false)].toArray 89 (0,0)),(b1,.cells [(I6 4),(U6 0),(St []),(x.r.V x.m),(.bool true)].toArray 89 (0,0))] ++ σF ++ x.r.B 89 x.xs)) (fun x => View.le U x.V ∧ RwR TV 5 x.V x.r x.xs x.m x.L ∧ x.m ≤ 1000 ∧ aKd (aCZ (itF d)) ps x) (fun x => 1001 - x.m) ⟨Rw.nil,[],0,[],ps,U⟩ ?_ ?_ (hm := fun _ h => h.nilE)))))
 · exact ⟨View.le_refl _,RwR.nil,Nat.zero_le _,aKd.zero hp he⟩
 intro x hx
 obtain ⟨hxl,hxr,hxm,hx⟩ := hx
 refine zs (zB [0,0,0,1,0,0] [(p,1)] (aK 16 (x.ps.e == 0) (fun h0 => ?_) (fun h0 => ?_)))
 ·
  have h0d := eq_of_beq h0
  have he0 : x.ps.e = 0 := h0d
  have hle1 := (hx.ok he0).le
  have hln1 := (hx.ok he0).len
  unfold R47 at hln1
  refine cU [0,3] [(b1,1)] (cH (L6 x.m) (sG x.r 5 x.m x.xs hxr.ok (.tmp 18) 87 89 rfl kR kR) ?_)
  refine zq 3 (zn (gP ((x.m : Int) != (-1)) (bne_iff_ne.2 oW) ?_))
  refine zk (aB (zs (zQ 4 (dI 0 (x := (bK p [(St x.ps.b),(I6 (x.ps.at_ : Int)),(I6 x.ps.e)] 245)) (fun W hM => aFj x.ps p (hx.ok he0) (hM.eqv kR)) (fun v2 V2 s2 hV2 hP2 => ?_)))))
  have k3 := hxr.le hV2
  obtain ⟨rfl,rfl⟩ := hP2
  refine zq 1 (zn (cD (aDq x.ps.rest) (fun h1 => ?_) (fun h1 => ?_)))
  ·
   refine zB [0,0,0,1,0] [(p,1)] (eV 33 ((x.ps.at_ : Int) + 1) (zq 2 (aY 0 p (zn (zs (zr ?_))))))
   refine pL x.r x.xs 5 x.m ([(bK p [(St x.ps.b),(I6 ((x.ps.at_ : Int) + 1)),(I6 x.ps.e)] 245),(b0,.cells [(I6 0),(U6 0),(St []),S0,(.bool false)].toArray 89 (0,0)),(b1,.cells [(I6 4),(U6 0),(St []),(x.r.V x.m),(.bool true)].toArray 89 (0,0))] ++ σF) 89 kR hxr.ok (fun a4 c4 V4 hV4 hR4 hE4 => ?_)
   rw [hE4]
   have k5 := k3.le hV4
   refine cU [3] [(b1,5)] (aY 1 b0 (zn (aA (dU [2] [(b0,5)] [(.agg #[(I6 4),(U6 0),(St []),(.slice a4 x.m c4),(.bool true)])] (fun W' hM => ?_)))))
   have hT2 := k5.arr c4 hR4 (View.le_refl _) (by unfold R47; omega) true
   refine dP 0 3 (bK p [(St x.ps.b),(I6 ((x.ps.at_ : Int) + 1)),(I6 x.ps.e)] 245) hM (View.le_trans (View.le_trans hxl hV2) hV4) ?_
   exact aI2 hx he0 (ps' := ⟨x.ps.b,x.ps.at_ + 1,x.ps.e⟩) (show (aCZ (itF d)) x.m x.ps.rest = some ([],1) from by unfold aCZ; cases 1000 - x.m <;> rw [oP,if_pos h1]) rfl hT2 rfl rfl he0
  ·
   refine zk (zs (zB [0,3] [(b1,1)] (cH (L6 x.m) (sG x.r 5 x.m x.xs hxr.ok (.tmp 38) 87 89 rfl kR kR) ?_)))
   refine zq 1 (zn (cD ((x.m : Int) == 1000) (fun h2 => ?_) (fun h2 => ?_)))
   ·
    have h2d := eq_of_beq h2
    refine zB [0,0,0,0,1] [(p,1)] (dI 0 (x := (bK p [(St x.ps.b),(I6 (x.ps.at_ : Int)),(I6 x.ps.e)] 245)) (fun W hM => gG x.ps p x.ps.at_ 4 (hM.eqv kR)) (fun v6 V6 s6 hV6 hP6 => ?_))
    obtain ⟨rfl,rfl⟩ := hP6
    refine aY 1 b0 (zn (aA (dU [2] [(b0,5)] [(.agg #[(I6 0),(U6 0),(St []),S0,(.bool false)])] (fun W' hM => ?_))))
    have hM2 := (hM.eqv (show _ = (([(p,(x.ps.fail x.ps.at_ 4).O),(b0,.cells [(I6 0),(U6 0),(St []),S0,(.bool false)].toArray 89 (0,0)),(b1,.cells [(I6 4),(U6 0),(St []),(x.r.V x.m),(.bool true)].toArray 89 (0,0))] : aF) ++ σF) ++ x.r.B 89 x.xs from by kernel_rfl)).sub (List.sublist_append_left _ _)
    have hfe : (x.ps.fail x.ps.at_ 4).b = x.ps.b ∧ (x.ps.fail x.ps.at_ 4).e = 4 := by unfold Ps.fail; rw [if_pos (by rw [he0]; rfl)]; exact ⟨rfl,rfl⟩
    exact dP 0 3 _ hM2 ((View.le_trans (View.le_trans hxl hV2) hV6)) (aFn (by have hg := hx.go he0; rw [← hg,show (aCZ (itF d)) x.m x.ps.rest = none from by unfold aCZ; rw [show 1000 - x.m = 0 by omega,oP,h1]; rfl]; rfl) rfl (TV.num _ 0 (by decide)) (hfe.1.trans hx.b) (by rw [hfe.2]; decide))
   ·
    have h2d := beq_eq_false_iff_ne.1 h2
    refine zk ?_
    refine aHw 2 5 [0,4,0,0,1,1,1] [(b1,1)] [.val (I6 (d : Int)),.mem (aAD (itF d x.ps.rest)),.mem (aAj (itF d x.ps.rest))] [(bK p [(St x.ps.b),(I6 (x.ps.at_ : Int)),(I6 x.ps.e)] 245)] ([] ++ ([(b0,.cells [(I6 0),(U6 0),(St []),S0,(.bool false)].toArray 89 (0,0)),(b1,.cells [(I6 4),(U6 0),(St []),(x.r.V x.m),(.bool true)].toArray 89 (0,0))] ++ σF ++ x.r.B 89 x.xs)) (qQ p x.ps (itF d x.ps.rest)) (sL [] ([(b0,.cells [(I6 0),(U6 0),(St []),S0,(.bool false)].toArray 89 (0,0)),(b1,.cells [(I6 4),(U6 0),(St []),(x.r.V x.m),(.bool true)].toArray 89 (0,0))] ++ σF ++ x.r.B 89 x.xs) (bK p [(St x.ps.b),(I6 (x.ps.at_ : Int)),(I6 x.ps.e)] 245) kR) rfl (by intro v V s2 h; exact h.one) (by intro v V V2 s2 h1 h2; exact h2.mono h1) (by simp only [List.forall_mem_cons]; exact ⟨trivial,by intro v V V2 hV2 hP; (first | trivial | exact aAD.mono hV2 hP | exact aAj.mono hV2 hP),by intro v V V2 hV2 hP; (first | trivial | exact aAD.mono hV2 hP | exact aAj.mono hV2 hP),fun _ h => by cases h⟩) ⟨?_,?_,?_,trivial⟩ ?_
    · exact nO fun σ' => wE (I6 (IntKind.i64.wrap (((d + 1 : Nat) : Int) - 1))) (congrArg (Value.int .i64) hd1)
    ·
     refine nC 181 (fun u => #[(Pt p 0),(I6 (d : Int))]) fun u V hV hdq W hM => ?_
     exact hI x.ps p (hx.ok he0) he0 (hM.eqv kR)
    ·
     refine nO fun σ' => wN [52] (fun u => [u 5]) fun u V hV hdq => ?_
     have e5 := hdq 5 kR rfl
     obtain ⟨t5,cs5,q5,ht5,hz5⟩ := e5
     obtain ⟨a5,c5,rfl,hts5,hn5,hs5,hl5⟩ := ht5.form
     refine ⟨(tC t5 a5 c5),89,fun r => (Sl r 0 1 1),?_,fun g V' hV' hR => ?_⟩
     · rw [q5]; kernel_rfl
     exact ⟨t5,_,g,rfl,hR,ht5.le hV',hz5⟩
    intro u8 V8 s8 hV8 hdq8 hP8
    have k9 := k3.le hV8
    obtain ⟨z8,hz8⟩ : ∃ z,u8 5 = z := ⟨_,rfl⟩
    rw [hz8] at hP8
    obtain ⟨ps8,rfl,hb8,hy8⟩ := (hP8).at_
    have e6_8 := hdq8 6 rfl
    obtain ⟨t6_8,cs6_8,g6_8,q6_8,hg6_8,ht6_8,hz6_8⟩ := e6_8
    obtain ⟨a6_8,c6_8,rfl,hts6_8,hn6_8,hs6_8,hl6_8⟩ := ht6_8.form
    refine aLH 53 q6_8 ?_
    refine fV x.r x.xs x.m ([(bK p [(St ps8.b),(I6 (ps8.at_ : Int)),(I6 ps8.e)] 245),(b0,.cells [(I6 0),(U6 0),(St []),S0,(.bool false)].toArray 89 (0,0)),(b1,.cells [(I6 4),(U6 0),(St []),(x.r.V x.m),(.bool true)].toArray 89 (0,0))] ++ σF) 89 87 5 64 1 kR hxr.ok (.tmp 48) (.tmp 53) rfl kR g6_8 0 1 (tC t6_8 a6_8 c6_8) kR (fun W hM => View.range_of hg6_8 hM.view) rfl (List.all_eq_true.1 kR) (by decide) (by unfold maxLen; omega) oW kR kR kR kR kR (fun r10 hr10 => ?_)
    refine zq 1 ?_
    refine aL3 2 b1 3 (x.m + 1) 5 r10 (x.xs ++ (tC t6_8 a6_8 c6_8)) hr10 [(I6 4),(U6 0),(St []),(x.r.V x.m),(.bool true)] 89 87 _ _ rfl kR kR kR (fun a c => by kernel_rfl) kR rfl kR ?_
    refine zn ?_
    refine nx ⟨r10,(x.xs ++ (tC t6_8 a6_8 c6_8)),x.m + 1,x.L ++ [(t6_8,(tC t6_8 a6_8 c6_8))],ps8,V8⟩ ?_ ?_
    · exact ⟨(View.le_trans (View.le_trans hxl hV2) hV8),RwR.snoc k9 ht6_8 hr10,by show x.m + 1 ≤ 1000; omega,hx.step (rG d) he0 (aG8 oW h1) hb8 hy8 hz6_8⟩
    · show 1001 - (x.m + 1) < 1001 - x.m; omega
 ·
  have h0d := beq_eq_false_iff_ne.1 h0
  refine zq 6 (zn (dE (aU (zs (zr ?_)))))
  refine pL x.r x.xs 5 x.m ([(bK p [(St x.ps.b),(I6 (x.ps.at_ : Int)),(I6 x.ps.e)] 245),(b0,.cells [(I6 0),(U6 0),(St []),S0,(.bool false)].toArray 89 (0,0)),(b1,.cells [(I6 4),(U6 0),(St []),(x.r.V x.m),(.bool true)].toArray 89 (0,0))] ++ σF) 89 kR hxr.ok (fun a11 c11 V11 hV11 hR11 hE11 => ?_)
  rw [hE11]
  have k12 := hxr.le hV11
  refine cU [3] [(b1,5)] (aY 1 b0 (zn (aA (dU [2] [(b0,5)] [(.agg #[(I6 4),(U6 0),(St []),(.slice a11 x.m c11),(.bool true)])] (fun W' hM => ?_)))))
  have hT2 := k12.arr c11 hR11 (View.le_refl _) (by unfold R47; omega) true
  refine dP 0 3 (bK p [(St x.ps.b),(I6 (x.ps.at_ : Int)),(I6 x.ps.e)] 245) hM (View.le_trans hxl hV11) ?_
  exact aFn (ps' := x.ps) (hx.no (by simpa using h0)) rfl hT2 hx.b (by simpa using h0)
end Go.Proofs.YtcdjakemdlinhaaGreatDoor.Sx
