/-
  Several texts in one: Ps5 Ps6 Asb9 Mix1 Mix2 Mxr.
  Conditions: named at each.
-/
import Derived.Test.YtcdjakemdlinhaaGreatDoorG09
set_option linter.unusedSimpArgs false
set_option linter.unusedVariables false
set_option linter.unusedSectionVars false
namespace Go.Proofs.YtcdjakemdlinhaaGreatDoor.Sx
open Go.ChangeShapes Go.WideShapes Go.ChangeAt Go.RowKit Go.Deep
theorem psIs_shift {p z : Nat} {ps : Ps} {o : Bool} {X : Option (List Itm.Tr × Nat)} {v : Value} {V : View} {σ : Blks} (h : PsIs p ⟨ps.b, ps.at_ + z, ps.e⟩ (arrT2 o 0 X) v V σ) : PsIs p ps (arrT2 o z X) v V σ := by
 obtain ⟨t, cs, ps', e, ht, h1, h2, hx⟩ := h
 refine ⟨t, cs, ps', e, ht, h1, h2, ?_⟩
 cases X with
 | none => exact hx
 | some q =>
  obtain ⟨l, k⟩ := q
  simp only [arrT2] at hx ⊢
  exact ⟨hx.1, by omega, hx.2.2⟩
theorem item_no (ps : Ps) (p : Nat)  (d : Nat) (hp : ps.ok) (he : ps.e = 0) (hx : hdF ps.rest = none) {W0 : Cx} {U : View} {σF : Blks} {W : World} (hM : Mem W0 U ([(p, ps.O)] ++ σF) W) : Calls Tryz.prog 181 #[.pointer (some ⟨p, 0, none⟩), .int .i64 (d : Int)] W (RetM W0 U σF (PsIs p ps (itF d ps.rest))) := by
 have hle := hp.le
 have hlen := hp.len
 unfold R47 at hlen
 have hrl : ps.rest.length = ps.b.length - ps.at_ := List.length_drop
 have hit : itF d ps.rest = none := by cases d <;> simp [itF,hx]
 have hM2 : Mem W0 U ([(bK p [(St ps.b),(I6 (ps.at_ : Int)),(I6 ps.e)] 245)] ++ σF) W := hM.eqv (by kernel_rfl)
 refine sx_enterM (f := 181) 118 U Tryz.func181 rfl rfl rfl hM2 ?_
 refine zs (zr (sx_NI 1 (fun b0 => ?_)))
 refine zn (zQ 1 (sx_MI 0 (bK p [(St ps.b),(I6 (ps.at_ : Int)),(I6 ps.e)] 245) 211 #[(Pt p 0)] (fun v _ σ' => ∃ r,v = .pointer (some ⟨r,0,none⟩) ∧ σ' = [(r,(Rd.new ps.rest).O),(p,ps.O)]) (fun W hM => pReader_any ps p hp hM) (fun v1 V1 s1 hV1 hP1 => ?_)))
 obtain ⟨r1,rfl,rfl⟩ := hP1
 refine zq 1 (zn (zQ 1 (sx_MI 0 (r1,(Rd.new ps.rest).O) 212 #[(Pt r1 0)] (HdIs r1 ps.rest (none)) (fun W hM => hx ▸ rHead_any ps.rest r1 (Ps.rest_len hp) hM) (fun v2 V2 s2 hV2 hP2 => ?_))))
 obtain ⟨rfl,rfl⟩ := hP2
 refine zq 7 (zn (zs (zQ 1 (sx_MI 0 (r1,(hdR ps.rest (none)).O) 213 #[(Pt r1 0)] (fun v V σ' => v = .tuple #[.int .i64 (⟨ps.rest,0,0,2,0⟩ : Rd).bad,.int .i64 (⟨ps.rest,0,0,2,0⟩ : Rd).e] ∧ σ' = [(r1,(⟨ps.rest,0,0,2,0⟩ : Rd).O)]) (fun W hM => rBad_any (⟨ps.rest,0,0,2,0⟩ : Rd) r1 (hM.eqv (by kernel_rfl))) (fun v3 V3 s3 hV3 hP3 => ?_)))))
 obtain ⟨rfl,rfl⟩ := hP3
 refine zq 5 (zn (zQ 2 (zn (sx_T (zB [0,0,0,0,2,0] [(p,1)] (sx_MI 1 (bK p [(St ps.b),(I6 (ps.at_ : Int)),(I6 ps.e)] 245) 182 #[(Pt p 0),(I6 (ps.at_ : Int)),(I6 2)] (fun v _ σ' => v = itZ ∧ σ' = [(p,(ps.fail ps.at_ 2).O)]) (fun W hM => pFail_any ps p ps.at_ 2 (hM.eqv (by kernel_rfl))) (fun v4 V4 s4 hV4 hP4 => ?_)))))))
 obtain ⟨rfl,rfl⟩ := hP4
 refine sx_S 2 b0 (zn (sx_ret ?_))
 refine sx_ret_any [.cell 4 89] [(.agg #[(I6 0),(U6 0),(St []),S0,(.bool false)])] rfl ⟨(retK' 2 b0 5),trivial⟩ (fun W' hM => ?_)
 rw [hit]
 exact retM_at 0 3 _ hM (View.le_trans (View.le_trans (View.le_trans hV1 hV2) hV3) hV4) (psIs_fail (at_ := ps.at_) (e := 2) he (by decide))
theorem item_other (ps : Ps) (p : Nat) (d m n z : Nat) (o : Bool) (hp : ps.ok) (he : ps.e = 0) (hx : hdF ps.rest = some (m, n, o, z)) (h0 : m ≠ 0) (h2 : m ≠ 2) (h3 : m ≠ 3) (h4 : m ≠ 4) {W0 : Cx} {U : View} {σF : Blks} {W : World} (hM : Mem W0 U ([(p, ps.O)] ++ σF) W) : Calls Tryz.prog 181 #[.pointer (some ⟨p, 0, none⟩), .int .i64 (d : Int)] W (RetM W0 U σF (PsIs p ps (itF d ps.rest))) := by
 have hle := hp.le
 have hlen := hp.len
 unfold R47 at hlen
 have hrl : ps.rest.length = ps.b.length - ps.at_ := List.length_drop
 have hm0 : ((m : Int) != 0) = true := bne_iff_ne.2 (by omega)
 have hm2 : ((m : Int) != 2) = true := bne_iff_ne.2 (by omega)
 have hm3 : ((m : Int) != 3) = true := bne_iff_ne.2 (by omega)
 have hm4 : ((m : Int) != 4) = true := bne_iff_ne.2 (by omega)
 have hit : itF d ps.rest = none := by
  cases d with
  | zero => rfl
  | succ d => rw [itF,hx]; simp only [h0,h2,h3,h4,if_false]
 have hM2 : Mem W0 U ([(bK p [(St ps.b),(I6 (ps.at_ : Int)),(I6 ps.e)] 245)] ++ σF) W := hM.eqv (by kernel_rfl)
 refine sx_enterM (f := 181) 118 U Tryz.func181 rfl rfl rfl hM2 ?_
 refine zs (zr (sx_NI 1 (fun b0 => ?_)))
 refine zn (zQ 1 (sx_MI 0 (bK p [(St ps.b),(I6 (ps.at_ : Int)),(I6 ps.e)] 245) 211 #[(Pt p 0)] (fun v _ σ' => ∃ r,v = .pointer (some ⟨r,0,none⟩) ∧ σ' = [(r,(Rd.new ps.rest).O),(p,ps.O)]) (fun W hM => pReader_any ps p hp hM) (fun v1 V1 s1 hV1 hP1 => ?_)))
 obtain ⟨r1,rfl,rfl⟩ := hP1
 refine zq 1 (zn (zQ 1 (sx_MI 0 (r1,(Rd.new ps.rest).O) 212 #[(Pt r1 0)] (HdIs r1 ps.rest (some (m,n,o,z))) (fun W hM => hx ▸ rHead_any ps.rest r1 (Ps.rest_len hp) hM) (fun v2 V2 s2 hV2 hP2 => ?_))))
 obtain ⟨rfl,rfl⟩ := hP2
 refine zq 7 (zn (zs (zQ 1 (sx_MI 0 (r1,(hdR ps.rest (some (m,n,o,z))).O) 213 #[(Pt r1 0)] (fun v V σ' => v = .tuple #[.int .i64 (⟨ps.rest,z,-1,0,0⟩ : Rd).bad,.int .i64 (⟨ps.rest,z,-1,0,0⟩ : Rd).e] ∧ σ' = [(r1,(⟨ps.rest,z,-1,0,0⟩ : Rd).O)]) (fun W hM => rBad_any (⟨ps.rest,z,-1,0,0⟩ : Rd) r1 (hM.eqv (by kernel_rfl))) (fun v3 V3 s3 hV3 hP3 => ?_)))))
 obtain ⟨rfl,rfl⟩ := hP3
 refine zq 5 (zn (zQ 2 (zn (sx_F (zk (zs (sx_block (zQ 3 (sx_E 40 (.bool ((m : Int) != 0)) (.bool true) (congrArg Value.bool hm0) ?_)))))))))
 refine zq 4 (sx_E 44 (.bool ((m : Int) != 2)) (.bool true) (congrArg Value.bool hm2) ?_)
 refine zq 4 (sx_E 48 (.bool ((m : Int) != 3)) (.bool true) (congrArg Value.bool hm3) ?_)
 refine zq 4 (zn (sx_T' ((m : Int) != 4) hm4 ?_))
 refine zB [0,0,0,0,2] [(p,1)] (sx_MI 1 (bK p [(St ps.b),(I6 (ps.at_ : Int)),(I6 ps.e)] 245) 182 #[(Pt p 0),(I6 (ps.at_ : Int)),(I6 2)] (fun v _ σ' => v = itZ ∧ σ' = [(p,(ps.fail ps.at_ 2).O)]) (fun W hM => pFail_any ps p ps.at_ 2 (hM.eqv (by kernel_rfl))) (fun v4 V4 s4 hV4 hP4 => ?_))
 obtain ⟨rfl,rfl⟩ := hP4
 refine sx_S 2 b0 (zn (sx_ret ?_))
 refine sx_ret_any [.cell 4 89] [(.agg #[(I6 0),(U6 0),(St []),S0,(.bool false)])] rfl ⟨(retK' 2 b0 5),trivial⟩ (fun W' hM => ?_)
 rw [hit]
 exact retM_at 0 3 _ hM (View.le_trans (View.le_trans (View.le_trans hV1 hV2) hV3) hV4) (psIs_fail (at_ := ps.at_) (e := 2) he (by decide))
theorem item_deep0 (ps : Ps) (p : Nat) (n z : Nat) (o : Bool) (hp : ps.ok) (he : ps.e = 0) (hx : hdF ps.rest = some (0, n, o, z)) {W0 : Cx} {U : View} {σF : Blks} {W : World} (hM : Mem W0 U ([(p, ps.O)] ++ σF) W) : Calls Tryz.prog 181 #[.pointer (some ⟨p, 0, none⟩), .int .i64 ((0 : Nat) : Int)] W (RetM W0 U σF (PsIs p ps (itF 0 ps.rest))) := by
 have hle := hp.le
 have hlen := hp.len
 unfold R47 at hlen
 have hrl : ps.rest.length = ps.b.length - ps.at_ := List.length_drop
 have hit : itF 0 ps.rest = none := rfl
 have hM2 : Mem W0 U ([(bK p [(St ps.b),(I6 (ps.at_ : Int)),(I6 ps.e)] 245)] ++ σF) W := hM.eqv (by kernel_rfl)
 refine sx_enterM (f := 181) 118 U Tryz.func181 rfl rfl rfl hM2 ?_
 refine zs (zr (sx_NI 1 (fun b0 => ?_)))
 refine zn (zQ 1 (sx_MI 0 (bK p [(St ps.b),(I6 (ps.at_ : Int)),(I6 ps.e)] 245) 211 #[(Pt p 0)] (fun v _ σ' => ∃ r,v = .pointer (some ⟨r,0,none⟩) ∧ σ' = [(r,(Rd.new ps.rest).O),(p,ps.O)]) (fun W hM => pReader_any ps p hp hM) (fun v1 V1 s1 hV1 hP1 => ?_)))
 obtain ⟨r1,rfl,rfl⟩ := hP1
 refine zq 1 (zn (zQ 1 (sx_MI 0 (r1,(Rd.new ps.rest).O) 212 #[(Pt r1 0)] (HdIs r1 ps.rest (some (0,n,o,z))) (fun W hM => hx ▸ rHead_any ps.rest r1 (Ps.rest_len hp) hM) (fun v2 V2 s2 hV2 hP2 => ?_))))
 obtain ⟨rfl,rfl⟩ := hP2
 refine zq 7 (zn (zs (zQ 1 (sx_MI 0 (r1,(hdR ps.rest (some (0,n,o,z))).O) 213 #[(Pt r1 0)] (fun v V σ' => v = .tuple #[.int .i64 (⟨ps.rest,z,-1,0,0⟩ : Rd).bad,.int .i64 (⟨ps.rest,z,-1,0,0⟩ : Rd).e] ∧ σ' = [(r1,(⟨ps.rest,z,-1,0,0⟩ : Rd).O)]) (fun W hM => rBad_any (⟨ps.rest,z,-1,0,0⟩ : Rd) r1 (hM.eqv (by kernel_rfl))) (fun v3 V3 s3 hV3 hP3 => ?_)))))
 obtain ⟨rfl,rfl⟩ := hP3
 refine zq 5 (zn (zQ 2 (zn (sx_F (zk (zs (sx_block (zQ 15 (zn (sx_F (zQ 3 (zn (sx_T' (decide (((0 : Nat) : Int) < 1)) (by decide) ?_)))))))))))))
 refine zB [0,0,0,0,2] [(p,1)] (sx_MI 1 (bK p [(St ps.b),(I6 (ps.at_ : Int)),(I6 ps.e)] 245) 182 #[(Pt p 0),(I6 (ps.at_ : Int)),(I6 3)] (fun v _ σ' => v = itZ ∧ σ' = [(p,(ps.fail ps.at_ 3).O)]) (fun W hM => pFail_any ps p ps.at_ 3 (hM.eqv (by kernel_rfl))) (fun v4 V4 s4 hV4 hP4 => ?_))
 obtain ⟨rfl,rfl⟩ := hP4
 refine sx_S 2 b0 (zn (sx_ret ?_))
 refine sx_ret_any [.cell 4 89] [(.agg #[(I6 0),(U6 0),(St []),S0,(.bool false)])] rfl ⟨(retK' 2 b0 5),trivial⟩ (fun W' hM => ?_)
 rw [hit]
 exact retM_at 0 3 _ hM (View.le_trans (View.le_trans (View.le_trans hV1 hV2) hV3) hV4) (psIs_fail (at_ := ps.at_) (e := 3) he (by decide))
theorem item_deep2 (ps : Ps) (p : Nat) (n z : Nat) (o : Bool) (hp : ps.ok) (he : ps.e = 0) (hx : hdF ps.rest = some (2, n, o, z)) {W0 : Cx} {U : View} {σF : Blks} {W : World} (hM : Mem W0 U ([(p, ps.O)] ++ σF) W) : Calls Tryz.prog 181 #[.pointer (some ⟨p, 0, none⟩), .int .i64 ((0 : Nat) : Int)] W (RetM W0 U σF (PsIs p ps (itF 0 ps.rest))) := by
 have hle := hp.le
 have hlen := hp.len
 unfold R47 at hlen
 have hrl : ps.rest.length = ps.b.length - ps.at_ := List.length_drop
 have hit : itF 0 ps.rest = none := rfl
 have hM2 : Mem W0 U ([(bK p [(St ps.b),(I6 (ps.at_ : Int)),(I6 ps.e)] 245)] ++ σF) W := hM.eqv (by kernel_rfl)
 refine sx_enterM (f := 181) 118 U Tryz.func181 rfl rfl rfl hM2 ?_
 refine zs (zr (sx_NI 1 (fun b0 => ?_)))
 refine zn (zQ 1 (sx_MI 0 (bK p [(St ps.b),(I6 (ps.at_ : Int)),(I6 ps.e)] 245) 211 #[(Pt p 0)] (fun v _ σ' => ∃ r,v = .pointer (some ⟨r,0,none⟩) ∧ σ' = [(r,(Rd.new ps.rest).O),(p,ps.O)]) (fun W hM => pReader_any ps p hp hM) (fun v1 V1 s1 hV1 hP1 => ?_)))
 obtain ⟨r1,rfl,rfl⟩ := hP1
 refine zq 1 (zn (zQ 1 (sx_MI 0 (r1,(Rd.new ps.rest).O) 212 #[(Pt r1 0)] (HdIs r1 ps.rest (some (2,n,o,z))) (fun W hM => hx ▸ rHead_any ps.rest r1 (Ps.rest_len hp) hM) (fun v2 V2 s2 hV2 hP2 => ?_))))
 obtain ⟨rfl,rfl⟩ := hP2
 refine zq 7 (zn (zs (zQ 1 (sx_MI 0 (r1,(hdR ps.rest (some (2,n,o,z))).O) 213 #[(Pt r1 0)] (fun v V σ' => v = .tuple #[.int .i64 (⟨ps.rest,z,-1,0,0⟩ : Rd).bad,.int .i64 (⟨ps.rest,z,-1,0,0⟩ : Rd).e] ∧ σ' = [(r1,(⟨ps.rest,z,-1,0,0⟩ : Rd).O)]) (fun W hM => rBad_any (⟨ps.rest,z,-1,0,0⟩ : Rd) r1 (hM.eqv (by kernel_rfl))) (fun v3 V3 s3 hV3 hP3 => ?_)))))
 obtain ⟨rfl,rfl⟩ := hP3
 refine zq 5 (zn (zQ 2 (zn (sx_F (zk (zs (sx_block (zQ 15 (zn (sx_F (zQ 3 (zn (sx_T' (decide (((0 : Nat) : Int) < 1)) (by decide) ?_)))))))))))))
 refine zB [0,0,0,0,2] [(p,1)] (sx_MI 1 (bK p [(St ps.b),(I6 (ps.at_ : Int)),(I6 ps.e)] 245) 182 #[(Pt p 0),(I6 (ps.at_ : Int)),(I6 3)] (fun v _ σ' => v = itZ ∧ σ' = [(p,(ps.fail ps.at_ 3).O)]) (fun W hM => pFail_any ps p ps.at_ 3 (hM.eqv (by kernel_rfl))) (fun v4 V4 s4 hV4 hP4 => ?_))
 obtain ⟨rfl,rfl⟩ := hP4
 refine sx_S 2 b0 (zn (sx_ret ?_))
 refine sx_ret_any [.cell 4 89] [(.agg #[(I6 0),(U6 0),(St []),S0,(.bool false)])] rfl ⟨(retK' 2 b0 5),trivial⟩ (fun W' hM => ?_)
 rw [hit]
 exact retM_at 0 3 _ hM (View.le_trans (View.le_trans (View.le_trans hV1 hV2) hV3) hV4) (psIs_fail (at_ := ps.at_) (e := 3) he (by decide))
theorem item_deep3 (ps : Ps) (p : Nat) (n z : Nat) (o : Bool) (hp : ps.ok) (he : ps.e = 0) (hx : hdF ps.rest = some (3, n, o, z)) {W0 : Cx} {U : View} {σF : Blks} {W : World} (hM : Mem W0 U ([(p, ps.O)] ++ σF) W) : Calls Tryz.prog 181 #[.pointer (some ⟨p, 0, none⟩), .int .i64 ((0 : Nat) : Int)] W (RetM W0 U σF (PsIs p ps (itF 0 ps.rest))) := by
 have hle := hp.le
 have hlen := hp.len
 unfold R47 at hlen
 have hrl : ps.rest.length = ps.b.length - ps.at_ := List.length_drop
 have hit : itF 0 ps.rest = none := rfl
 have hM2 : Mem W0 U ([(bK p [(St ps.b),(I6 (ps.at_ : Int)),(I6 ps.e)] 245)] ++ σF) W := hM.eqv (by kernel_rfl)
 refine sx_enterM (f := 181) 118 U Tryz.func181 rfl rfl rfl hM2 ?_
 refine zs (zr (sx_NI 1 (fun b0 => ?_)))
 refine zn (zQ 1 (sx_MI 0 (bK p [(St ps.b),(I6 (ps.at_ : Int)),(I6 ps.e)] 245) 211 #[(Pt p 0)] (fun v _ σ' => ∃ r,v = .pointer (some ⟨r,0,none⟩) ∧ σ' = [(r,(Rd.new ps.rest).O),(p,ps.O)]) (fun W hM => pReader_any ps p hp hM) (fun v1 V1 s1 hV1 hP1 => ?_)))
 obtain ⟨r1,rfl,rfl⟩ := hP1
 refine zq 1 (zn (zQ 1 (sx_MI 0 (r1,(Rd.new ps.rest).O) 212 #[(Pt r1 0)] (HdIs r1 ps.rest (some (3,n,o,z))) (fun W hM => hx ▸ rHead_any ps.rest r1 (Ps.rest_len hp) hM) (fun v2 V2 s2 hV2 hP2 => ?_))))
 obtain ⟨rfl,rfl⟩ := hP2
 refine zq 7 (zn (zs (zQ 1 (sx_MI 0 (r1,(hdR ps.rest (some (3,n,o,z))).O) 213 #[(Pt r1 0)] (fun v V σ' => v = .tuple #[.int .i64 (⟨ps.rest,z,-1,0,0⟩ : Rd).bad,.int .i64 (⟨ps.rest,z,-1,0,0⟩ : Rd).e] ∧ σ' = [(r1,(⟨ps.rest,z,-1,0,0⟩ : Rd).O)]) (fun W hM => rBad_any (⟨ps.rest,z,-1,0,0⟩ : Rd) r1 (hM.eqv (by kernel_rfl))) (fun v3 V3 s3 hV3 hP3 => ?_)))))
 obtain ⟨rfl,rfl⟩ := hP3
 refine zq 5 (zn (zQ 2 (zn (sx_F (zk (zs (sx_block (zQ 15 (zn (sx_F (zQ 3 (zn (sx_T' (decide (((0 : Nat) : Int) < 1)) (by decide) ?_)))))))))))))
 refine zB [0,0,0,0,2] [(p,1)] (sx_MI 1 (bK p [(St ps.b),(I6 (ps.at_ : Int)),(I6 ps.e)] 245) 182 #[(Pt p 0),(I6 (ps.at_ : Int)),(I6 3)] (fun v _ σ' => v = itZ ∧ σ' = [(p,(ps.fail ps.at_ 3).O)]) (fun W hM => pFail_any ps p ps.at_ 3 (hM.eqv (by kernel_rfl))) (fun v4 V4 s4 hV4 hP4 => ?_))
 obtain ⟨rfl,rfl⟩ := hP4
 refine sx_S 2 b0 (zn (sx_ret ?_))
 refine sx_ret_any [.cell 4 89] [(.agg #[(I6 0),(U6 0),(St []),S0,(.bool false)])] rfl ⟨(retK' 2 b0 5),trivial⟩ (fun W' hM => ?_)
 rw [hit]
 exact retM_at 0 3 _ hM (View.le_trans (View.le_trans (View.le_trans hV1 hV2) hV3) hV4) (psIs_fail (at_ := ps.at_) (e := 3) he (by decide))
theorem item_deep4 (ps : Ps) (p : Nat) (n z : Nat) (o : Bool) (hp : ps.ok) (he : ps.e = 0) (hx : hdF ps.rest = some (4, n, o, z)) {W0 : Cx} {U : View} {σF : Blks} {W : World} (hM : Mem W0 U ([(p, ps.O)] ++ σF) W) : Calls Tryz.prog 181 #[.pointer (some ⟨p, 0, none⟩), .int .i64 ((0 : Nat) : Int)] W (RetM W0 U σF (PsIs p ps (itF 0 ps.rest))) := by
 have hle := hp.le
 have hlen := hp.len
 unfold R47 at hlen
 have hrl : ps.rest.length = ps.b.length - ps.at_ := List.length_drop
 have hit : itF 0 ps.rest = none := rfl
 have hM2 : Mem W0 U ([(bK p [(St ps.b),(I6 (ps.at_ : Int)),(I6 ps.e)] 245)] ++ σF) W := hM.eqv (by kernel_rfl)
 refine sx_enterM (f := 181) 118 U Tryz.func181 rfl rfl rfl hM2 ?_
 refine zs (zr (sx_NI 1 (fun b0 => ?_)))
 refine zn (zQ 1 (sx_MI 0 (bK p [(St ps.b),(I6 (ps.at_ : Int)),(I6 ps.e)] 245) 211 #[(Pt p 0)] (fun v _ σ' => ∃ r,v = .pointer (some ⟨r,0,none⟩) ∧ σ' = [(r,(Rd.new ps.rest).O),(p,ps.O)]) (fun W hM => pReader_any ps p hp hM) (fun v1 V1 s1 hV1 hP1 => ?_)))
 obtain ⟨r1,rfl,rfl⟩ := hP1
 refine zq 1 (zn (zQ 1 (sx_MI 0 (r1,(Rd.new ps.rest).O) 212 #[(Pt r1 0)] (HdIs r1 ps.rest (some (4,n,o,z))) (fun W hM => hx ▸ rHead_any ps.rest r1 (Ps.rest_len hp) hM) (fun v2 V2 s2 hV2 hP2 => ?_))))
 obtain ⟨rfl,rfl⟩ := hP2
 refine zq 7 (zn (zs (zQ 1 (sx_MI 0 (r1,(hdR ps.rest (some (4,n,o,z))).O) 213 #[(Pt r1 0)] (fun v V σ' => v = .tuple #[.int .i64 (⟨ps.rest,z,-1,0,0⟩ : Rd).bad,.int .i64 (⟨ps.rest,z,-1,0,0⟩ : Rd).e] ∧ σ' = [(r1,(⟨ps.rest,z,-1,0,0⟩ : Rd).O)]) (fun W hM => rBad_any (⟨ps.rest,z,-1,0,0⟩ : Rd) r1 (hM.eqv (by kernel_rfl))) (fun v3 V3 s3 hV3 hP3 => ?_)))))
 obtain ⟨rfl,rfl⟩ := hP3
 refine zq 5 (zn (zQ 2 (zn (sx_F (zk (zs (sx_block (zQ 15 (zn (sx_F (zQ 3 (zn (sx_T' (decide (((0 : Nat) : Int) < 1)) (by decide) ?_)))))))))))))
 refine zB [0,0,0,0,2] [(p,1)] (sx_MI 1 (bK p [(St ps.b),(I6 (ps.at_ : Int)),(I6 ps.e)] 245) 182 #[(Pt p 0),(I6 (ps.at_ : Int)),(I6 3)] (fun v _ σ' => v = itZ ∧ σ' = [(p,(ps.fail ps.at_ 3).O)]) (fun W hM => pFail_any ps p ps.at_ 3 (hM.eqv (by kernel_rfl))) (fun v4 V4 s4 hV4 hP4 => ?_))
 obtain ⟨rfl,rfl⟩ := hP4
 refine sx_S 2 b0 (zn (sx_ret ?_))
 refine sx_ret_any [.cell 4 89] [(.agg #[(I6 0),(U6 0),(St []),S0,(.bool false)])] rfl ⟨(retK' 2 b0 5),trivial⟩ (fun W' hM => ?_)
 rw [hit]
 exact retM_at 0 3 _ hM (View.le_trans (View.le_trans (View.le_trans hV1 hV2) hV3) hV4) (psIs_fail (at_ := ps.at_) (e := 3) he (by decide))
theorem item_num (ps : Ps) (p : Nat) (d n z : Nat) (o : Bool) (hp : ps.ok) (he : ps.e = 0) (hx : hdF ps.rest = some (0, n, o, z)) {W0 : Cx} {U : View} {σF : Blks} {W : World} (hM : Mem W0 U ([(p, ps.O)] ++ σF) W) : Calls Tryz.prog 181 #[.pointer (some ⟨p, 0, none⟩), .int .i64 ((d + 1 : Nat) : Int)] W (RetM W0 U σF (PsIs p ps (itF (d + 1) ps.rest))) := by
 have hle := hp.le
 have hlen := hp.len
 unfold R47 at hlen
 have hrl : ps.rest.length = ps.b.length - ps.at_ := List.length_drop
 have hd1 : decide (((d + 1 : Nat) : Int) < 1) = false := decide_eq_false (by omega)
 have hz := hdF_len hx
 have hnl := (hdF_lt hx).1
 have hit : itF (d + 1) ps.rest = some (.mk 0 n [] [] false,z) := by rw [itF,hx]; rfl
 have hM2 : Mem W0 U ([(bK p [(St ps.b),(I6 (ps.at_ : Int)),(I6 ps.e)] 245)] ++ σF) W := hM.eqv (by kernel_rfl)
 refine sx_enterM (f := 181) 118 U Tryz.func181 rfl rfl rfl hM2 ?_
 refine zs (zr (sx_NI 1 (fun b0 => ?_)))
 refine zn (zQ 1 (sx_MI 0 (bK p [(St ps.b),(I6 (ps.at_ : Int)),(I6 ps.e)] 245) 211 #[(Pt p 0)] (fun v _ σ' => ∃ r,v = .pointer (some ⟨r,0,none⟩) ∧ σ' = [(r,(Rd.new ps.rest).O),(p,ps.O)]) (fun W hM => pReader_any ps p hp hM) (fun v1 V1 s1 hV1 hP1 => ?_)))
 obtain ⟨r1,rfl,rfl⟩ := hP1
 refine zq 1 (zn (zQ 1 (sx_MI 0 (r1,(Rd.new ps.rest).O) 212 #[(Pt r1 0)] (HdIs r1 ps.rest (some (0,n,o,z))) (fun W hM => hx ▸ rHead_any ps.rest r1 (Ps.rest_len hp) hM) (fun v2 V2 s2 hV2 hP2 => ?_))))
 obtain ⟨rfl,rfl⟩ := hP2
 refine zq 7 (zn (zs (zQ 1 (sx_MI 0 (r1,(hdR ps.rest (some (0,n,o,z))).O) 213 #[(Pt r1 0)] (fun v V σ' => v = .tuple #[.int .i64 (⟨ps.rest,z,-1,0,0⟩ : Rd).bad,.int .i64 (⟨ps.rest,z,-1,0,0⟩ : Rd).e] ∧ σ' = [(r1,(⟨ps.rest,z,-1,0,0⟩ : Rd).O)]) (fun W hM => rBad_any (⟨ps.rest,z,-1,0,0⟩ : Rd) r1 (hM.eqv (by kernel_rfl))) (fun v3 V3 s3 hV3 hP3 => ?_)))))
 obtain ⟨rfl,rfl⟩ := hP3
 refine zq 5 (zn (zQ 2 (zn (sx_F (zk (zs (sx_block (zQ 15 (zn (sx_F (zQ 3 (zn (sx_F' (decide (((d + 1 : Nat) : Int) < 1)) hd1 ?_)))))))))))))
 refine zQ 3 (zn (sx_T (zs (sx_W 6 4 3 [70,71,72,73,74,75] [.val (Pt p 0),.val (Pt p 0),.val (Pt p 1),.val (I6 (ps.at_ : Int)),.val (Pt r1 0),.val (I6 (z : Int))] ⟨?_,?_,?_,?_,?_,?_,trivial⟩ ?_))))
 · exact oQ 0 rfl (Pt p 0) rfl
 · exact oQ 1 rfl (Pt p 0) rfl
 · exact oQ 2 rfl (Pt p 1) rfl
 · exact oL 3 1 p 1 [(St ps.b),(I6 (ps.at_ : Int)),(I6 ps.e)] 245 rfl (I6 (ps.at_ : Int)) rfl
 · exact oQ 4 rfl (Pt r1 0) rfl
 · exact obC 5 214 #[(Pt r1 0)] rfl (I6 (z : Int)) rfl (by kernel_rfl) (fun W hM => rAtM (⟨ps.rest,z,-1,0,0⟩ : Rd) r1 0 hM (by kernel_rfl)) (by kernel_rfl)
 refine zq 1 (sx_E 76 (I6 (IntKind.i64.wrap ((ps.at_ : Int) + (z : Int)))) (I6 ((ps.at_ : Int) + (z : Int))) i6v ?_)
 refine zq 2 (sx_S 1 p (zn (zQ 1 (sx_C 40 #[(N6 n)] (.agg #[(I6 0),(N6 n),(St []),S0,(.bool false)]) (fun W hM => iNum_any _ W) ?_))))
 refine sx_S 2 b0 (zn (sx_ret ?_))
 refine sx_ret_any [.cell 4 89] [(.agg #[(I6 0),(N6 n),(St []),S0,(.bool false)])] rfl ⟨(retK' 2 b0 5),trivial⟩ (fun W' hM => ?_)
 rw [hit]
 exact retM_at 1 3 _ hM (View.le_trans (View.le_trans hV1 hV2) hV3) ⟨_,_,⟨ps.b,ps.at_ + z,ps.e⟩,rfl,TV.num _ n (by unfold W64; omega),rfl,rfl,rfl,rfl,he⟩
theorem item_str2 (ps : Ps) (p : Nat) (d n z : Nat) (o : Bool) (hp : ps.ok) (he : ps.e = 0) (hx : hdF ps.rest = some (2, n, o, z)) {W0 : Cx} {U : View} {σF : Blks} {W : World} (hM : Mem W0 U ([(p, ps.O)] ++ σF) W) : Calls Tryz.prog 181 #[.pointer (some ⟨p, 0, none⟩), .int .i64 ((d + 1 : Nat) : Int)] W (RetM W0 U σF (PsIs p ps (itF (d + 1) ps.rest))) := by
 have hle := hp.le
 have hlen := hp.len
 unfold R47 at hlen
 have hrl : ps.rest.length = ps.b.length - ps.at_ := List.length_drop
 have hd1 : decide (((d + 1 : Nat) : Int) < 1) = false := decide_eq_false (by omega)
 have hz := hdF_len hx
 have hit : itF (d + 1) ps.rest = strT2 2 (strF ps.rest n z o 1073741824) := by rw [itF,hx]; rfl
 have hM2 : Mem W0 U ([(bK p [(St ps.b),(I6 (ps.at_ : Int)),(I6 ps.e)] 245)] ++ σF) W := hM.eqv (by kernel_rfl)
 refine sx_enterM (f := 181) 118 U Tryz.func181 rfl rfl rfl hM2 ?_
 refine zs (zr (sx_NI 1 (fun b0 => ?_)))
 refine zn (zQ 1 (sx_MI 0 (bK p [(St ps.b),(I6 (ps.at_ : Int)),(I6 ps.e)] 245) 211 #[(Pt p 0)] (fun v _ σ' => ∃ r,v = .pointer (some ⟨r,0,none⟩) ∧ σ' = [(r,(Rd.new ps.rest).O),(p,ps.O)]) (fun W hM => pReader_any ps p hp hM) (fun v1 V1 s1 hV1 hP1 => ?_)))
 obtain ⟨r1,rfl,rfl⟩ := hP1
 refine zq 1 (zn (zQ 1 (sx_MI 0 (r1,(Rd.new ps.rest).O) 212 #[(Pt r1 0)] (HdIs r1 ps.rest (some (2,n,o,z))) (fun W hM => hx ▸ rHead_any ps.rest r1 (Ps.rest_len hp) hM) (fun v2 V2 s2 hV2 hP2 => ?_))))
 obtain ⟨rfl,rfl⟩ := hP2
 refine zq 7 (zn (zs (zQ 1 (sx_MI 0 (r1,(hdR ps.rest (some (2,n,o,z))).O) 213 #[(Pt r1 0)] (fun v V σ' => v = .tuple #[.int .i64 (⟨ps.rest,z,-1,0,0⟩ : Rd).bad,.int .i64 (⟨ps.rest,z,-1,0,0⟩ : Rd).e] ∧ σ' = [(r1,(⟨ps.rest,z,-1,0,0⟩ : Rd).O)]) (fun W hM => rBad_any (⟨ps.rest,z,-1,0,0⟩ : Rd) r1 (hM.eqv (by kernel_rfl))) (fun v3 V3 s3 hV3 hP3 => ?_)))))
 obtain ⟨rfl,rfl⟩ := hP3
 refine zq 5 (zn (zQ 2 (zn (sx_F (zk (zs (sx_block (zQ 15 (zn (sx_F (zQ 3 (zn (sx_F' (decide (((d + 1 : Nat) : Int) < 1)) hd1 ?_)))))))))))))
 refine zQ 3 (zn (sx_F (zQ 3 (zn (sx_T (zQ 2 (sx_MI 1 (bK p [(St ps.b),(I6 (ps.at_ : Int)),(I6 ps.e)] 245) 215 #[(Pt p 0),(I6 2)] (PsIs p ps (strT2 2 (strF ps.rest n z o 1073741824))) (fun W hM => pStr2 ps p n z o _ hp he hx rfl (hM.eqv (by kernel_rfl))) (fun v4 V4 s4 hV4 hP4 => ?_))))))))
 obtain ⟨t4,cs4,ps4,rfl,ht4,rfl,hb4,hy4⟩ := hP4
 obtain ⟨a4,c4,rfl,hts4,hn4,hs4,hl4⟩ := ht4.form
 refine sx_S 2 b0 (zn (sx_ret ?_))
 refine sx_ret_any [.cell 4 89] [(.agg #[(I6 t4.k),(N6 t4.n),(St t4.s),(.slice a4 t4.l.length c4),(.bool t4.o)])] rfl ⟨(retK' 2 b0 5),trivial⟩ (fun W' hM => ?_)
 rw [hit]
 exact retM_at 0 3 _ hM (View.le_trans (View.le_trans (View.le_trans hV1 hV2) hV3) hV4) ⟨t4,_,ps4,rfl,ht4,rfl,hb4,hy4⟩
theorem item_str3 (ps : Ps) (p : Nat) (d n z : Nat) (o : Bool) (hp : ps.ok) (he : ps.e = 0) (hx : hdF ps.rest = some (3, n, o, z)) {W0 : Cx} {U : View} {σF : Blks} {W : World} (hM : Mem W0 U ([(p, ps.O)] ++ σF) W) : Calls Tryz.prog 181 #[.pointer (some ⟨p, 0, none⟩), .int .i64 ((d + 1 : Nat) : Int)] W (RetM W0 U σF (PsIs p ps (itF (d + 1) ps.rest))) := by
 have hle := hp.le
 have hlen := hp.len
 unfold R47 at hlen
 have hrl : ps.rest.length = ps.b.length - ps.at_ := List.length_drop
 have hd1 : decide (((d + 1 : Nat) : Int) < 1) = false := decide_eq_false (by omega)
 have hz := hdF_len hx
 have hit : itF (d + 1) ps.rest = strT2 3 (strF ps.rest n z o 1073741824) := by rw [itF,hx]; rfl
 have hM2 : Mem W0 U ([(bK p [(St ps.b),(I6 (ps.at_ : Int)),(I6 ps.e)] 245)] ++ σF) W := hM.eqv (by kernel_rfl)
 refine sx_enterM (f := 181) 118 U Tryz.func181 rfl rfl rfl hM2 ?_
 refine zs (zr (sx_NI 1 (fun b0 => ?_)))
 refine zn (zQ 1 (sx_MI 0 (bK p [(St ps.b),(I6 (ps.at_ : Int)),(I6 ps.e)] 245) 211 #[(Pt p 0)] (fun v _ σ' => ∃ r,v = .pointer (some ⟨r,0,none⟩) ∧ σ' = [(r,(Rd.new ps.rest).O),(p,ps.O)]) (fun W hM => pReader_any ps p hp hM) (fun v1 V1 s1 hV1 hP1 => ?_)))
 obtain ⟨r1,rfl,rfl⟩ := hP1
 refine zq 1 (zn (zQ 1 (sx_MI 0 (r1,(Rd.new ps.rest).O) 212 #[(Pt r1 0)] (HdIs r1 ps.rest (some (3,n,o,z))) (fun W hM => hx ▸ rHead_any ps.rest r1 (Ps.rest_len hp) hM) (fun v2 V2 s2 hV2 hP2 => ?_))))
 obtain ⟨rfl,rfl⟩ := hP2
 refine zq 7 (zn (zs (zQ 1 (sx_MI 0 (r1,(hdR ps.rest (some (3,n,o,z))).O) 213 #[(Pt r1 0)] (fun v V σ' => v = .tuple #[.int .i64 (⟨ps.rest,z,-1,0,0⟩ : Rd).bad,.int .i64 (⟨ps.rest,z,-1,0,0⟩ : Rd).e] ∧ σ' = [(r1,(⟨ps.rest,z,-1,0,0⟩ : Rd).O)]) (fun W hM => rBad_any (⟨ps.rest,z,-1,0,0⟩ : Rd) r1 (hM.eqv (by kernel_rfl))) (fun v3 V3 s3 hV3 hP3 => ?_)))))
 obtain ⟨rfl,rfl⟩ := hP3
 refine zq 5 (zn (zQ 2 (zn (sx_F (zk (zs (sx_block (zQ 15 (zn (sx_F (zQ 3 (zn (sx_F' (decide (((d + 1 : Nat) : Int) < 1)) hd1 ?_)))))))))))))
 refine zQ 3 (zn (sx_F (zQ 3 (zn (sx_T (zQ 2 (sx_MI 1 (bK p [(St ps.b),(I6 (ps.at_ : Int)),(I6 ps.e)] 245) 215 #[(Pt p 0),(I6 3)] (PsIs p ps (strT2 3 (strF ps.rest n z o 1073741824))) (fun W hM => pStr3 ps p n z o _ hp he hx rfl (hM.eqv (by kernel_rfl))) (fun v4 V4 s4 hV4 hP4 => ?_))))))))
 obtain ⟨t4,cs4,ps4,rfl,ht4,rfl,hb4,hy4⟩ := hP4
 obtain ⟨a4,c4,rfl,hts4,hn4,hs4,hl4⟩ := ht4.form
 refine sx_S 2 b0 (zn (sx_ret ?_))
 refine sx_ret_any [.cell 4 89] [(.agg #[(I6 t4.k),(N6 t4.n),(St t4.s),(.slice a4 t4.l.length c4),(.bool t4.o)])] rfl ⟨(retK' 2 b0 5),trivial⟩ (fun W' hM => ?_)
 rw [hit]
 exact retM_at 0 3 _ hM (View.le_trans (View.le_trans (View.le_trans hV1 hV2) hV3) hV4) ⟨t4,_,ps4,rfl,ht4,rfl,hb4,hy4⟩
theorem item_open (ps : Ps) (p : Nat) (d n z : Nat) (hp : ps.ok) (he : ps.e = 0) (hx : hdF ps.rest = some (4, n, true, z)) (hdl : d ≤ 1000) (hI : ItemSpec d) {W0 : Cx} {U : View} {σF : Blks} {W : World} (hM : Mem W0 U ([(p, ps.O)] ++ σF) W) : Calls Tryz.prog 181 #[.pointer (some ⟨p, 0, none⟩), .int .i64 ((d + 1 : Nat) : Int)] W (RetM W0 U σF (PsIs p ps (itF (d + 1) ps.rest))) := by
 have hle := hp.le
 have hlen := hp.len
 unfold R47 at hlen
 have hrl : ps.rest.length = ps.b.length - ps.at_ := List.length_drop
 have hd1 : decide (((d + 1 : Nat) : Int) < 1) = false := decide_eq_false (by omega)
 have hz := hdF_len hx
 have hp2 : (⟨ps.b,ps.at_ + z,ps.e⟩ : Ps).ok := ⟨by show ps.at_ + z ≤ ps.b.length; omega,hp.len⟩
 have hr2 : (⟨ps.b,ps.at_ + z,ps.e⟩ : Ps).rest = ps.rest.drop z := by unfold Ps.rest; rw [List.drop_drop]
 have hit : itF (d + 1) ps.rest = arrT2 true z (openG (itF d) 0 (⟨ps.b,ps.at_ + z,ps.e⟩ : Ps).rest) := by rw [hr2,itF,hx]; rfl
 have hM2 : Mem W0 U ([(bK p [(St ps.b),(I6 (ps.at_ : Int)),(I6 ps.e)] 245)] ++ σF) W := hM.eqv (by kernel_rfl)
 refine sx_enterM (f := 181) 118 U Tryz.func181 rfl rfl rfl hM2 ?_
 refine zs (zr (sx_NI 1 (fun b0 => ?_)))
 refine zn (zQ 1 (sx_MI 0 (bK p [(St ps.b),(I6 (ps.at_ : Int)),(I6 ps.e)] 245) 211 #[(Pt p 0)] (fun v _ σ' => ∃ r,v = .pointer (some ⟨r,0,none⟩) ∧ σ' = [(r,(Rd.new ps.rest).O),(p,ps.O)]) (fun W hM => pReader_any ps p hp hM) (fun v1 V1 s1 hV1 hP1 => ?_)))
 obtain ⟨r1,rfl,rfl⟩ := hP1
 refine zq 1 (zn (zQ 1 (sx_MI 0 (r1,(Rd.new ps.rest).O) 212 #[(Pt r1 0)] (HdIs r1 ps.rest (some (4,n,true,z))) (fun W hM => hx ▸ rHead_any ps.rest r1 (Ps.rest_len hp) hM) (fun v2 V2 s2 hV2 hP2 => ?_))))
 obtain ⟨rfl,rfl⟩ := hP2
 refine zq 7 (zn (zs (zQ 1 (sx_MI 0 (r1,(hdR ps.rest (some (4,n,true,z))).O) 213 #[(Pt r1 0)] (fun v V σ' => v = .tuple #[.int .i64 (⟨ps.rest,z,-1,0,0⟩ : Rd).bad,.int .i64 (⟨ps.rest,z,-1,0,0⟩ : Rd).e] ∧ σ' = [(r1,(⟨ps.rest,z,-1,0,0⟩ : Rd).O)]) (fun W hM => rBad_any (⟨ps.rest,z,-1,0,0⟩ : Rd) r1 (hM.eqv (by kernel_rfl))) (fun v3 V3 s3 hV3 hP3 => ?_)))))
 obtain ⟨rfl,rfl⟩ := hP3
 refine zq 5 (zn (zQ 2 (zn (sx_F (zk (zs (sx_block (zQ 15 (zn (sx_F (zQ 3 (zn (sx_F' (decide (((d + 1 : Nat) : Int) < 1)) hd1 ?_)))))))))))))
 refine zQ 3 (zn (sx_F (zQ 3 (zn (sx_F (zk (zQ 1 (sx_MI 1 (bK p [(St ps.b),(I6 (ps.at_ : Int)),(I6 ps.e)] 245) 211 #[(Pt p 0)] (fun v _ σ' => ∃ r,v = .pointer (some ⟨r,0,none⟩) ∧ σ' = [(r,(Rd.new ps.rest).O),(p,ps.O)]) (fun W hM => pReader_any ps p hp hM) (fun v4 V4 s4 hV4 hP4 => ?_)))))))))
 obtain ⟨r4,rfl,rfl⟩ := hP4
 refine zq 1 (zn (zQ 1 (sx_MI 0 (r4,(Rd.new ps.rest).O) 216 #[(Pt r4 0)] (fun v _ σ' => v = .int .i64 (-1) ∧ σ' = [(r4,(⟨ps.rest,z,-1,0,0⟩ : Rd).O)]) (fun W hM => rArray_open ps.rest r4 n z hx (Ps.rest_len hp) hM) (fun v5 V5 s5 hV5 hP5 => ?_))))
 obtain ⟨rfl,rfl⟩ := hP5
 refine zq 1 (zn (zs (zQ 1 (sx_MI 0 (r4,(⟨ps.rest,z,-1,0,0⟩ : Rd).O) 213 #[(Pt r4 0)] (fun v V σ' => v = .tuple #[.int .i64 (⟨ps.rest,z,-1,0,0⟩ : Rd).bad,.int .i64 (⟨ps.rest,z,-1,0,0⟩ : Rd).e] ∧ σ' = [(r4,(⟨ps.rest,z,-1,0,0⟩ : Rd).O)]) (fun W hM => rBad_any (⟨ps.rest,z,-1,0,0⟩ : Rd) r4 (hM.eqv (by kernel_rfl))) (fun v6 V6 s6 hV6 hP6 => ?_)))))
 obtain ⟨rfl,rfl⟩ := hP6
 refine zq 5 (zn (zQ 2 (zn (sx_F (zk (zs (sx_W 6 4 3 [105,106,107,108,109,110] [.val (Pt p 0),.val (Pt p 0),.val (Pt p 1),.val (I6 (ps.at_ : Int)),.val (Pt r4 0),.val (I6 (z : Int))] ⟨?_,?_,?_,?_,?_,?_,trivial⟩ ?_)))))))
 · exact oQ 0 rfl (Pt p 0) rfl
 · exact oQ 1 rfl (Pt p 0) rfl
 · exact oQ 2 rfl (Pt p 1) rfl
 · exact oL 3 1 p 1 [(St ps.b),(I6 (ps.at_ : Int)),(I6 ps.e)] 245 rfl (I6 (ps.at_ : Int)) rfl
 · exact oQ 4 rfl (Pt r4 0) rfl
 · exact obC 5 214 #[(Pt r4 0)] rfl (I6 (z : Int)) rfl (by kernel_rfl) (fun W hM => rAtM (⟨ps.rest,z,-1,0,0⟩ : Rd) r4 0 hM (by kernel_rfl)) (by kernel_rfl)
 refine zq 1 (sx_E 111 (I6 (IntKind.i64.wrap ((ps.at_ : Int) + (z : Int)))) (I6 ((ps.at_ : Int) + (z : Int))) i6v ?_)
 refine zq 2 (sx_S 1 p (zn (zQ 3 (sx_MI 1 (bK p [(St ps.b),(I6 ((ps.at_ : Int) + (z : Int))),(I6 ps.e)] 245) 217 #[(Pt p 0),(I6 (-1)),(I6 ((d + 1 : Nat) : Int))] (PsIs p (⟨ps.b,ps.at_ + z,ps.e⟩ : Ps) (arrT2 true 0 (openG (itF d) 0 (⟨ps.b,ps.at_ + z,ps.e⟩ : Ps).rest))) (fun W hM => pList_open d hdl hI (⟨ps.b,ps.at_ + z,ps.e⟩ : Ps) p hp2 he (hM.eqv (by kernel_rfl))) (fun v7 V7 s7 hV7 hP7 => ?_)))))
 obtain ⟨t7,cs7,ps7,rfl,ht7,rfl,hb7,hy7⟩ := hP7
 obtain ⟨a7,c7,rfl,hts7,hn7,hs7,hl7⟩ := ht7.form
 refine sx_S 3 b0 (zn (sx_ret ?_))
 refine sx_ret_any [.cell 4 89] [(.agg #[(I6 t7.k),(N6 t7.n),(St t7.s),(.slice a7 t7.l.length c7),(.bool t7.o)])] rfl ⟨(retK' 3 b0 5),trivial⟩ (fun W' hM => ?_)
 rw [hit]
 exact retM_at 0 4 _ hM (View.le_trans (View.le_trans (View.le_trans (View.le_trans (View.le_trans (View.le_trans hV1 hV2) hV3) hV4) hV5) hV6) hV7) (psIs_shift ⟨t7,_,ps7,rfl,ht7,rfl,hb7,hy7⟩)
theorem item_ok (ps : Ps) (p : Nat) (d n z : Nat) (hp : ps.ok) (he : ps.e = 0) (hx : hdF ps.rest = some (4, n, false, z)) (hn : n ≤ 1000) (hdl : d ≤ 1000) (hI : ItemSpec d) {W0 : Cx} {U : View} {σF : Blks} {W : World} (hM : Mem W0 U ([(p, ps.O)] ++ σF) W) : Calls Tryz.prog 181 #[.pointer (some ⟨p, 0, none⟩), .int .i64 ((d + 1 : Nat) : Int)] W (RetM W0 U σF (PsIs p ps (itF (d + 1) ps.rest))) := by
 have hle := hp.le
 have hlen := hp.len
 unfold R47 at hlen
 have hrl : ps.rest.length = ps.b.length - ps.at_ := List.length_drop
 have hd1 : decide (((d + 1 : Nat) : Int) < 1) = false := decide_eq_false (by omega)
 have hz := hdF_len hx
 have hnd : decide ((n : Int) > 1000) = false := decide_eq_false (by omega)
 have hp2 : (⟨ps.b,ps.at_ + z,ps.e⟩ : Ps).ok := ⟨by show ps.at_ + z ≤ ps.b.length; omega,hp.len⟩
 have hr2 : (⟨ps.b,ps.at_ + z,ps.e⟩ : Ps).rest = ps.rest.drop z := by unfold Ps.rest; rw [List.drop_drop]
 have hit : itF (d + 1) ps.rest = arrT2 false z (closedG (itF d) n 0 (⟨ps.b,ps.at_ + z,ps.e⟩ : Ps).rest) := by rw [hr2,itF,hx]; simp only [Nat.reduceEqDiff,if_false,if_true,Bool.false_eq_true,hn]; rfl
 have hM2 : Mem W0 U ([(bK p [(St ps.b),(I6 (ps.at_ : Int)),(I6 ps.e)] 245)] ++ σF) W := hM.eqv (by kernel_rfl)
 refine sx_enterM (f := 181) 118 U Tryz.func181 rfl rfl rfl hM2 ?_
 refine zs (zr (sx_NI 1 (fun b0 => ?_)))
 refine zn (zQ 1 (sx_MI 0 (bK p [(St ps.b),(I6 (ps.at_ : Int)),(I6 ps.e)] 245) 211 #[(Pt p 0)] (fun v _ σ' => ∃ r,v = .pointer (some ⟨r,0,none⟩) ∧ σ' = [(r,(Rd.new ps.rest).O),(p,ps.O)]) (fun W hM => pReader_any ps p hp hM) (fun v1 V1 s1 hV1 hP1 => ?_)))
 obtain ⟨r1,rfl,rfl⟩ := hP1
 refine zq 1 (zn (zQ 1 (sx_MI 0 (r1,(Rd.new ps.rest).O) 212 #[(Pt r1 0)] (HdIs r1 ps.rest (some (4,n,false,z))) (fun W hM => hx ▸ rHead_any ps.rest r1 (Ps.rest_len hp) hM) (fun v2 V2 s2 hV2 hP2 => ?_))))
 obtain ⟨rfl,rfl⟩ := hP2
 refine zq 7 (zn (zs (zQ 1 (sx_MI 0 (r1,(hdR ps.rest (some (4,n,false,z))).O) 213 #[(Pt r1 0)] (fun v V σ' => v = .tuple #[.int .i64 (⟨ps.rest,z,-1,0,0⟩ : Rd).bad,.int .i64 (⟨ps.rest,z,-1,0,0⟩ : Rd).e] ∧ σ' = [(r1,(⟨ps.rest,z,-1,0,0⟩ : Rd).O)]) (fun W hM => rBad_any (⟨ps.rest,z,-1,0,0⟩ : Rd) r1 (hM.eqv (by kernel_rfl))) (fun v3 V3 s3 hV3 hP3 => ?_)))))
 obtain ⟨rfl,rfl⟩ := hP3
 refine zq 5 (zn (zQ 2 (zn (sx_F (zk (zs (sx_block (zQ 15 (zn (sx_F (zQ 3 (zn (sx_F' (decide (((d + 1 : Nat) : Int) < 1)) hd1 ?_)))))))))))))
 refine zQ 3 (zn (sx_F (zQ 3 (zn (sx_F (zk (zQ 1 (sx_MI 1 (bK p [(St ps.b),(I6 (ps.at_ : Int)),(I6 ps.e)] 245) 211 #[(Pt p 0)] (fun v _ σ' => ∃ r,v = .pointer (some ⟨r,0,none⟩) ∧ σ' = [(r,(Rd.new ps.rest).O),(p,ps.O)]) (fun W hM => pReader_any ps p hp hM) (fun v4 V4 s4 hV4 hP4 => ?_)))))))))
 obtain ⟨r4,rfl,rfl⟩ := hP4
 refine zq 1 (zn (zQ 1 (sx_MI 0 (r4,(Rd.new ps.rest).O) 216 #[(Pt r4 0)] (fun v _ σ' => v = .int .i64 (n : Int) ∧ σ' = [(r4,(⟨ps.rest,z,-1,0,0⟩ : Rd).O)]) (fun W hM => rArray_ok ps.rest r4 n z hx (Ps.rest_len hp) hnd hM) (fun v5 V5 s5 hV5 hP5 => ?_))))
 obtain ⟨rfl,rfl⟩ := hP5
 refine zq 1 (zn (zs (zQ 1 (sx_MI 0 (r4,(⟨ps.rest,z,-1,0,0⟩ : Rd).O) 213 #[(Pt r4 0)] (fun v V σ' => v = .tuple #[.int .i64 (⟨ps.rest,z,-1,0,0⟩ : Rd).bad,.int .i64 (⟨ps.rest,z,-1,0,0⟩ : Rd).e] ∧ σ' = [(r4,(⟨ps.rest,z,-1,0,0⟩ : Rd).O)]) (fun W hM => rBad_any (⟨ps.rest,z,-1,0,0⟩ : Rd) r4 (hM.eqv (by kernel_rfl))) (fun v6 V6 s6 hV6 hP6 => ?_)))))
 obtain ⟨rfl,rfl⟩ := hP6
 refine zq 5 (zn (zQ 2 (zn (sx_F (zk (zs (sx_W 6 4 3 [105,106,107,108,109,110] [.val (Pt p 0),.val (Pt p 0),.val (Pt p 1),.val (I6 (ps.at_ : Int)),.val (Pt r4 0),.val (I6 (z : Int))] ⟨?_,?_,?_,?_,?_,?_,trivial⟩ ?_)))))))
 · exact oQ 0 rfl (Pt p 0) rfl
 · exact oQ 1 rfl (Pt p 0) rfl
 · exact oQ 2 rfl (Pt p 1) rfl
 · exact oL 3 1 p 1 [(St ps.b),(I6 (ps.at_ : Int)),(I6 ps.e)] 245 rfl (I6 (ps.at_ : Int)) rfl
 · exact oQ 4 rfl (Pt r4 0) rfl
 · exact obC 5 214 #[(Pt r4 0)] rfl (I6 (z : Int)) rfl (by kernel_rfl) (fun W hM => rAtM (⟨ps.rest,z,-1,0,0⟩ : Rd) r4 0 hM (by kernel_rfl)) (by kernel_rfl)
 refine zq 1 (sx_E 111 (I6 (IntKind.i64.wrap ((ps.at_ : Int) + (z : Int)))) (I6 ((ps.at_ : Int) + (z : Int))) i6v ?_)
 refine zq 2 (sx_S 1 p (zn (zQ 3 (sx_MI 1 (bK p [(St ps.b),(I6 ((ps.at_ : Int) + (z : Int))),(I6 ps.e)] 245) 217 #[(Pt p 0),(I6 (n : Int)),(I6 ((d + 1 : Nat) : Int))] (PsIs p (⟨ps.b,ps.at_ + z,ps.e⟩ : Ps) (arrT2 false 0 (closedG (itF d) n 0 (⟨ps.b,ps.at_ + z,ps.e⟩ : Ps).rest))) (fun W hM => pList_closed d n hn hdl hI (⟨ps.b,ps.at_ + z,ps.e⟩ : Ps) p hp2 he (hM.eqv (by kernel_rfl))) (fun v7 V7 s7 hV7 hP7 => ?_)))))
 obtain ⟨t7,cs7,ps7,rfl,ht7,rfl,hb7,hy7⟩ := hP7
 obtain ⟨a7,c7,rfl,hts7,hn7,hs7,hl7⟩ := ht7.form
 refine sx_S 3 b0 (zn (sx_ret ?_))
 refine sx_ret_any [.cell 4 89] [(.agg #[(I6 t7.k),(N6 t7.n),(St t7.s),(.slice a7 t7.l.length c7),(.bool t7.o)])] rfl ⟨(retK' 3 b0 5),trivial⟩ (fun W' hM => ?_)
 rw [hit]
 exact retM_at 0 4 _ hM (View.le_trans (View.le_trans (View.le_trans (View.le_trans (View.le_trans (View.le_trans hV1 hV2) hV3) hV4) hV5) hV6) hV7) (psIs_shift ⟨t7,_,ps7,rfl,ht7,rfl,hb7,hy7⟩)
theorem item_long (ps : Ps) (p : Nat) (d n z : Nat) (hp : ps.ok) (he : ps.e = 0) (hx : hdF ps.rest = some (4, n, false, z)) (hn : ¬ n ≤ 1000) {W0 : Cx} {U : View} {σF : Blks} {W : World} (hM : Mem W0 U ([(p, ps.O)] ++ σF) W) : Calls Tryz.prog 181 #[.pointer (some ⟨p, 0, none⟩), .int .i64 ((d + 1 : Nat) : Int)] W (RetM W0 U σF (PsIs p ps (itF (d + 1) ps.rest))) := by
 have hle := hp.le
 have hlen := hp.len
 unfold R47 at hlen
 have hrl : ps.rest.length = ps.b.length - ps.at_ := List.length_drop
 have hd1 : decide (((d + 1 : Nat) : Int) < 1) = false := decide_eq_false (by omega)
 have hz := hdF_len hx
 have hnd : decide ((n : Int) > 1000) = true := decide_eq_true (by omega)
 have hit : itF (d + 1) ps.rest = none := by rw [itF,hx]; simp only [Nat.reduceEqDiff,if_false,if_true,Bool.false_eq_true,hn]
 have hM2 : Mem W0 U ([(bK p [(St ps.b),(I6 (ps.at_ : Int)),(I6 ps.e)] 245)] ++ σF) W := hM.eqv (by kernel_rfl)
 refine sx_enterM (f := 181) 118 U Tryz.func181 rfl rfl rfl hM2 ?_
 refine zs (zr (sx_NI 1 (fun b0 => ?_)))
 refine zn (zQ 1 (sx_MI 0 (bK p [(St ps.b),(I6 (ps.at_ : Int)),(I6 ps.e)] 245) 211 #[(Pt p 0)] (fun v _ σ' => ∃ r,v = .pointer (some ⟨r,0,none⟩) ∧ σ' = [(r,(Rd.new ps.rest).O),(p,ps.O)]) (fun W hM => pReader_any ps p hp hM) (fun v1 V1 s1 hV1 hP1 => ?_)))
 obtain ⟨r1,rfl,rfl⟩ := hP1
 refine zq 1 (zn (zQ 1 (sx_MI 0 (r1,(Rd.new ps.rest).O) 212 #[(Pt r1 0)] (HdIs r1 ps.rest (some (4,n,false,z))) (fun W hM => hx ▸ rHead_any ps.rest r1 (Ps.rest_len hp) hM) (fun v2 V2 s2 hV2 hP2 => ?_))))
 obtain ⟨rfl,rfl⟩ := hP2
 refine zq 7 (zn (zs (zQ 1 (sx_MI 0 (r1,(hdR ps.rest (some (4,n,false,z))).O) 213 #[(Pt r1 0)] (fun v V σ' => v = .tuple #[.int .i64 (⟨ps.rest,z,-1,0,0⟩ : Rd).bad,.int .i64 (⟨ps.rest,z,-1,0,0⟩ : Rd).e] ∧ σ' = [(r1,(⟨ps.rest,z,-1,0,0⟩ : Rd).O)]) (fun W hM => rBad_any (⟨ps.rest,z,-1,0,0⟩ : Rd) r1 (hM.eqv (by kernel_rfl))) (fun v3 V3 s3 hV3 hP3 => ?_)))))
 obtain ⟨rfl,rfl⟩ := hP3
 refine zq 5 (zn (zQ 2 (zn (sx_F (zk (zs (sx_block (zQ 15 (zn (sx_F (zQ 3 (zn (sx_F' (decide (((d + 1 : Nat) : Int) < 1)) hd1 ?_)))))))))))))
 refine zQ 3 (zn (sx_F (zQ 3 (zn (sx_F (zk (zQ 1 (sx_MI 1 (bK p [(St ps.b),(I6 (ps.at_ : Int)),(I6 ps.e)] 245) 211 #[(Pt p 0)] (fun v _ σ' => ∃ r,v = .pointer (some ⟨r,0,none⟩) ∧ σ' = [(r,(Rd.new ps.rest).O),(p,ps.O)]) (fun W hM => pReader_any ps p hp hM) (fun v4 V4 s4 hV4 hP4 => ?_)))))))))
 obtain ⟨r4,rfl,rfl⟩ := hP4
 refine zq 1 (zn (zQ 1 (sx_MI 0 (r4,(Rd.new ps.rest).O) 216 #[(Pt r4 0)] (fun v _ σ' => v = .int .i64 0 ∧ σ' = [(r4,(⟨ps.rest,0,0,4,0⟩ : Rd).O)]) (fun W hM => rArray_long ps.rest r4 n z hx (Ps.rest_len hp) hnd hM) (fun v5 V5 s5 hV5 hP5 => ?_))))
 obtain ⟨rfl,rfl⟩ := hP5
 refine zq 1 (zn (zs (zQ 1 (sx_MI 0 (r4,(⟨ps.rest,0,0,4,0⟩ : Rd).O) 213 #[(Pt r4 0)] (fun v V σ' => v = .tuple #[.int .i64 (⟨ps.rest,0,0,4,0⟩ : Rd).bad,.int .i64 (⟨ps.rest,0,0,4,0⟩ : Rd).e] ∧ σ' = [(r4,(⟨ps.rest,0,0,4,0⟩ : Rd).O)]) (fun W hM => rBad_any (⟨ps.rest,0,0,4,0⟩ : Rd) r4 (hM.eqv (by kernel_rfl))) (fun v6 V6 s6 hV6 hP6 => ?_)))))
 obtain ⟨rfl,rfl⟩ := hP6
 refine zq 5 (zn (zQ 2 (zn (sx_T (zB [0,0,0,0,2,0] [(p,1)] (sx_MI 1 (bK p [(St ps.b),(I6 (ps.at_ : Int)),(I6 ps.e)] 245) 182 #[(Pt p 0),(I6 (ps.at_ : Int)),(I6 4)] (fun v _ σ' => v = itZ ∧ σ' = [(p,(ps.fail ps.at_ 4).O)]) (fun W hM => pFail_any ps p ps.at_ 4 (hM.eqv (by kernel_rfl))) (fun v7 V7 s7 hV7 hP7 => ?_)))))))
 obtain ⟨rfl,rfl⟩ := hP7
 refine sx_S 3 b0 (zn (sx_ret ?_))
 refine sx_ret_any [.cell 4 89] [(.agg #[(I6 0),(U6 0),(St []),S0,(.bool false)])] rfl ⟨(retK' 3 b0 5),trivial⟩ (fun W' hM => ?_)
 rw [hit]
 exact retM_at 0 4 _ hM (View.le_trans (View.le_trans (View.le_trans (View.le_trans (View.le_trans (View.le_trans hV1 hV2) hV3) hV4) hV5) hV6) hV7) (psIs_fail (at_ := ps.at_) (e := 4) he (by decide))
theorem pItem_any : ∀ d, d ≤ 1000 → ItemSpec d := by
 intro d hd
 induction d with
 | zero =>
  intro ps p hp he W0 U σF W hM
  cases hx : hdF ps.rest with
  | none => exact item_no ps p 0 hp he hx hM
  | some q =>
   obtain ⟨m, n, o, z⟩ := q
   by_cases h0 : m = 0
   · subst h0; exact item_deep0 ps p n z o hp he hx hM
   ·
    by_cases h2 : m = 2
    · subst h2; exact item_deep2 ps p n z o hp he hx hM
    ·
     by_cases h3 : m = 3
     · subst h3; exact item_deep3 ps p n z o hp he hx hM
     ·
      by_cases h4 : m = 4
      · subst h4; exact item_deep4 ps p n z o hp he hx hM
      · exact item_other ps p 0 m n z o hp he hx h0 h2 h3 h4 hM
 | succ d ih =>
  intro ps p hp he W0 U σF W hM
  cases hx : hdF ps.rest with
  | none => exact item_no ps p (d + 1) hp he hx hM
  | some q =>
   obtain ⟨m, n, o, z⟩ := q
   by_cases h0 : m = 0
   · subst h0; exact item_num ps p d n z o hp he hx hM
   ·
    by_cases h2 : m = 2
    · subst h2; exact item_str2 ps p d n z o hp he hx hM
    ·
     by_cases h3 : m = 3
     · subst h3; exact item_str3 ps p d n z o hp he hx hM
     ·
      by_cases h4 : m = 4
      ·
       subst h4
       cases o with
       | true => exact item_open ps p d n z hp he hx (by omega) (ih (by omega)) hM
       | false =>
        by_cases hn : n ≤ 1000
        · exact item_ok ps p d n z hp he hx hn (by omega) (ih (by omega)) hM
        · exact item_long ps p d n z hp he hx hn hM
      · exact item_other ps p (d + 1) m n z o hp he hx h0 h2 h3 h4 hM
def parseF (b : List UInt8) : Option Itm.Tr := match itF 8 b with
 | some (t, k) => if k = b.length then some t else none
 | none => none
def ParseIs (x : Option Itm.Tr) (v : Value) (V : View) : Prop := match x with
 | some t => ∃ cs, v = .tuple #[.agg cs.toArray, .int .i64 (-1), .int .i64 0] ∧ TV V t cs
 | none => ∃ n e, v = .tuple #[itZ, .int .i64 n, .int .i64 e] ∧ e ≠ 0
theorem parse_facts {b : List UInt8} {t : Itm.Tr} {ps' : Ps} (hy : match itF 8 b with
 | some (t', k) => t = t' ∧ ps'.at_ = 0 + k ∧ ps'.e = 0
 | none => ps'.e ≠ 0) : (ps'.e ≠ 0 → parseF b = none) ∧ (ps'.e = 0 → ps'.at_ ≤ b.length ∧ (ps'.at_ < b.length → parseF b = none) ∧ (¬ ps'.at_ < b.length → parseF b = some t)) := by
 unfold parseF
 cases hq : itF 8 b with
 | none =>
  rw [hq] at hy
  exact ⟨fun _ => rfl, fun h => absurd h hy⟩
 | some q =>
  obtain ⟨t', k⟩ := q
  rw [hq] at hy
  simp only at hy
  obtain ⟨rfl, h2, h3⟩ := hy
  have hk := itF_len 8 b _ _ hq
  refine ⟨fun h => absurd h3 h, fun _ => ⟨by omega, fun h => ?_, fun h => ?_⟩⟩
  ·
   simp only
   rw [if_neg (by omega)]
  ·
   simp only
   rw [if_pos (by omega)]
theorem pFail_any' (ps : Ps) (p at_ : Nat) (e : Int) (h : (ps.e == 0) = true) {W0 : Cx} {U : View} {σF : Blks} {W : World} (hM : Mem W0 U ([(p, ps.O)] ++ σF) W) : Calls Tryz.prog 182 #[.pointer (some ⟨p, 0, none⟩), .int .i64 (at_ : Int), .int .i64 e] W (RetM W0 U σF fun v _ σ' => v = itZ ∧ σ' = [(p, (⟨ps.b, at_, e⟩ : Ps).O)]) := by
 have h2 := pFail_any ps p at_ e hM
 rw [show ps.fail at_ e = ⟨ps.b, at_, e⟩ from by unfold Ps.fail; rw [if_pos h]] at h2
 exact h2
set_option maxHeartbeats 16000000 in
theorem iParse_any (b : List UInt8) (w : World) {U : View} (hU : ∀ a v, U a = some v → w.cell? a = some v) (hb : b.length ≤ R47) : Calls Tryz.prog 137 #[.string (B b)] w (RetN w U (ParseIs (parseF b))) := by
 have hb47 := hb
 unfold R47 at hb47
 refine sx_enter (f := 137) 47 U Tryz.func137 rfl rfl rfl hU ?_
 refine zs (zr (sx_N (fun b0 => (zq 2 (zn (zQ 2 (sx_N (fun b1 => (zq 1 (zn (zQ 1 (sx_MI 1 (bK b1 [(St b),(I6 0),(I6 0)] 245) 181 #[(Pt b1 0),(I6 8)] (PsIs b1 ⟨b,0,0⟩ (itF 8 (Ps.rest ⟨b,0,0⟩))) (fun W hM => pItem_any 8 (by decide) ⟨b,0,0⟩ b1 ⟨Nat.zero_le _,hb⟩ rfl (hM.eqv (by kernel_rfl))) (fun v2 V2 s2 hV2 hP2 => ?_)))))))))))))
 obtain ⟨t2,cs2,ps2,rfl,ht2,rfl,hb2,hy2⟩ := hP2
 obtain ⟨a2,c2,rfl,hts2,hn2,hs2,hl2⟩ := ht2.form
 have hP2 := parse_facts (b := b) (ps' := ps2) hy2
 refine sx_N (fun b3 => (sx_S 2 b3 (zn (zs (zB [0,0,0,1,0,0] [(b1,1)] (sx_BL 17 (ps2.e == 0) (fun h0 => ?_) (fun h0 => ?_)))))))
 ·
  have h0d := eq_of_beq h0
  refine sx_B [0,0,0,1,0,0,0,0] [(b1,1)] (zn (sx_D (decide ((ps2.at_ : Int) < (((b).length : Nat) : Int))) (fun h1 => ?_) (fun h1 => ?_)))
  ·
   have h1d := of_decide_eq_true h1
   refine zr (sx_B [0,0,0,0,1] [(b1,1)] (sx_MI 0 (bK b1 [(St ps2.b),(I6 (ps2.at_ : Int)),(I6 ps2.e)] 245) 182 #[(Pt b1 0),(I6 (ps2.at_ : Int)),(I6 2)] (fun v _ σ' => v = itZ ∧ σ' = [(b1,(⟨ps2.b,ps2.at_,2⟩ : Ps).O)]) (fun W hM => (pFail_any' ps2 b1 ps2.at_ 2 h0 (hM.eqv (by kernel_rfl)))) (fun v4 V4 s4 hV4 hP4 => ?_)))
   obtain ⟨rfl,rfl⟩ := hP4
   refine zn (zs (zB [0,0,0,1,0] [(b1,1)] (zn (sx_T (zs ?_)))))
   refine sx_drawnS 11 1 0 [37,38,39,40,41,42,43,44,45,0,3] [.val (.agg #[(I6 0),(U6 0),(St []),S0,(.bool false)]),.val (Pt b1 0),.val (Pt b1 0),.val (Pt b1 1),.val (I6 (ps2.at_ : Int)),.val (Pt b1 0),.val (Pt b1 0),.val (Pt b1 2),.val (I6 2),.mem (fun _ _ => True),.val (I6 (ps2.at_ : Int))] 9 [(bK b1 [(St ps2.b),(I6 (ps2.at_ : Int)),(I6 2)] 245),(b0,.cells [(I6 0),(U6 0),(St []),S0,(.bool false)].toArray 89 (0,0)),(bK b3 [(I6 t2.k),(N6 t2.n),(St t2.s),(.slice a2 t2.l.length c2),(.bool t2.o)] 89)] (by kernel_rfl) rfl rfl (by kernel_rfl) (by kernel_rfl) (by kernel_rfl) (by kernel_rfl) (by kernel_rfl) (by kernel_rfl) (by simp only [List.forall_mem_cons]; exact ⟨trivial,trivial,trivial,trivial,trivial,trivial,trivial,trivial,trivial,by intro v V V2 hV2 hP; (first | trivial | exact PhiMono.go hP hV2 | (obtain ⟨g,e,hP⟩ := hP; exact ⟨g,e,hP.le hV2⟩)),trivial,fun _ h => by cases h⟩) (by kernel_rfl) (show (9 : Nat) < 11 by decide) rfl ⟨?_,?_,?_,?_,?_,?_,?_,?_,?_,?_,?_,trivial⟩ [2,3,4,6,45] (fun u => [(Pt b0 0),(I6 (ps2.at_ : Int)),(I6 0),(Pt b3 0),(I6 2)]) (fun u => by kernel_rfl) ?_
   · exact ObS.o 0 (show (0 : Nat) ≠ 9 by decide) (oqQ 0 rfl (.agg #[(I6 0),(U6 0),(St []),S0,(.bool false)]) (.agg #[(I6 0),(U6 0),(St []),S0,(.bool false)]) rfl rfl (fun u => by kernel_rfl) (fun u => by kernel_rfl)) (oqQ 0 rfl (.agg #[(I6 0),(U6 0),(St []),S0,(.bool false)]) (.agg #[(I6 0),(U6 0),(St []),S0,(.bool false)]) rfl rfl (fun u => by kernel_rfl) (fun u => by kernel_rfl))
   · exact ObS.o 1 (show (1 : Nat) ≠ 9 by decide) (oqQ 1 rfl (Pt b1 0) (Pt b1 0) rfl rfl (fun u => by kernel_rfl) (fun u => by kernel_rfl)) (oqQ 1 rfl (Pt b1 0) (Pt b1 0) rfl rfl (fun u => by kernel_rfl) (fun u => by kernel_rfl))
   · exact ObS.o 2 (show (2 : Nat) ≠ 9 by decide) (oqQ 2 rfl (Pt b1 0) (Pt b1 0) rfl rfl (fun u => by kernel_rfl) (fun u => by kernel_rfl)) (oqQ 2 rfl (Pt b1 0) (Pt b1 0) rfl rfl (fun u => by kernel_rfl) (fun u => by kernel_rfl))
   · exact ObS.o 3 (show (3 : Nat) ≠ 9 by decide) (oqQ 3 rfl (Pt b1 1) (Pt b1 1) rfl rfl (fun u => by kernel_rfl) (fun u => by kernel_rfl)) (oqQ 3 rfl (Pt b1 1) (Pt b1 1) rfl rfl (fun u => by kernel_rfl) (fun u => by kernel_rfl))
   · exact ObS.o 4 (show (4 : Nat) ≠ 9 by decide) (oqL 4 0 b1 1 [(St ps2.b),(I6 (ps2.at_ : Int)),(I6 2)] 245 rfl (I6 (ps2.at_ : Int)) rfl (by kernel_rfl) (fun u => by kernel_rfl) (fun u => by kernel_rfl)) (oqL 4 0 b1 1 [(St ps2.b),(I6 (ps2.at_ : Int)),(I6 2)] 245 rfl (I6 (ps2.at_ : Int)) rfl (by kernel_rfl) (fun u => by kernel_rfl) (fun u => by kernel_rfl))
   · exact ObS.o 5 (show (5 : Nat) ≠ 9 by decide) (oqQ 5 rfl (Pt b1 0) (Pt b1 0) rfl rfl (fun u => by kernel_rfl) (fun u => by kernel_rfl)) (oqQ 5 rfl (Pt b1 0) (Pt b1 0) rfl rfl (fun u => by kernel_rfl) (fun u => by kernel_rfl))
   · exact ObS.o 6 (show (6 : Nat) ≠ 9 by decide) (oqQ 6 rfl (Pt b1 0) (Pt b1 0) rfl rfl (fun u => by kernel_rfl) (fun u => by kernel_rfl)) (oqQ 6 rfl (Pt b1 0) (Pt b1 0) rfl rfl (fun u => by kernel_rfl) (fun u => by kernel_rfl))
   · exact ObS.o 7 (show (7 : Nat) ≠ 9 by decide) (oqQ 7 rfl (Pt b1 2) (Pt b1 2) rfl rfl (fun u => by kernel_rfl) (fun u => by kernel_rfl)) (oqQ 7 rfl (Pt b1 2) (Pt b1 2) rfl rfl (fun u => by kernel_rfl) (fun u => by kernel_rfl))
   · exact ObS.o 8 (show (8 : Nat) ≠ 9 by decide) (oqL 8 0 b1 1 [(St ps2.b),(I6 (ps2.at_ : Int)),(I6 2)] 245 rfl (I6 2) rfl (by kernel_rfl) (fun u => by kernel_rfl) (fun u => by kernel_rfl)) (oqL 8 0 b1 1 [(St ps2.b),(I6 (ps2.at_ : Int)),(I6 2)] 245 rfl (I6 2) rfl (by kernel_rfl) (fun u => by kernel_rfl) (fun u => by kernel_rfl))
   · exact ObS.st 1 b0 (.cells [(I6 0),(U6 0),(St []),S0,(.bool false)].toArray 89 (0,0)) rfl rfl rfl [2,37] (fun u => [(Pt b0 0),(.agg #[(I6 0),(U6 0),(St []),S0,(.bool false)])]) (fun u => by kernel_rfl) (fun u => by kernel_rfl) (by kernel_rfl)
   · exact ObS.o 10 (show (10 : Nat) ≠ 9 by decide) (oqQ 10 rfl (I6 (ps2.at_ : Int)) (I6 (ps2.at_ : Int)) rfl rfl (fun u => by kernel_rfl) (fun u => by kernel_rfl)) (oqQ 10 rfl (I6 (ps2.at_ : Int)) (I6 (ps2.at_ : Int)) rfl rfl (fun u => by kernel_rfl) (fun u => by kernel_rfl))
   intro u7 V7 hV7 hdq7
   refine zq 1 (zn (sx_ret ?_))
   refine sx_ret_any [.cell 2 89,.tmp 3,.tmp 4] [(.agg #[(I6 0),(U6 0),(St []),S0,(.bool false)]),(I6 (ps2.at_ : Int)),(I6 2)] rfl ⟨(retK' 1 b0 5),retT',retT',trivial⟩ (fun W' hM => ?_)
   have hq := (hP2.2 (eq_of_beq h0)).2.1 (by have := of_decide_eq_true h1; omega)
   rw [hq]
   exact retN_of hM (View.le_trans (View.le_trans hV2 hV4) hV7) ⟨_,_,rfl,by decide⟩
  ·
   have h1d := of_decide_eq_false h1
   refine zk (zs (zB [0,0,0,1,0] [(b1,1)] (zn (sx_F' (ps2.e != 0) (by rw [eq_of_beq h0]; rfl) ?_))))
   refine zk (zB [3] [(b3,5)] (sx_S 1 b0 (zq 2 (zn (sx_ret ?_)))))
   refine sx_ret_any [.cell 2 89,.tmp 3,.tmp 4] [(.agg #[(I6 t2.k),(N6 t2.n),(St t2.s),(.slice a2 t2.l.length c2),(.bool t2.o)]),(I6 (-1)),(I6 0)] rfl ⟨(retK' 1 b0 5),retT',retT',trivial⟩ (fun W' hM => ?_)
   have hq := (hP2.2 (eq_of_beq h0)).2.2 (by have := of_decide_eq_false h1; omega)
   rw [hq]
   exact retN_of hM hV2 ⟨_,rfl,ht2⟩
 ·
  refine zq 8 (zn (sx_F (zk (zs (zB [0,0,0,1,0] [(b1,1)] (zn (sx_T' (ps2.e != 0) (bne_iff_ne.2 (beq_eq_false_iff_ne.1 h0)) ?_)))))))
  refine zs ?_
  refine sx_drawnS 11 1 0 [37,38,39,40,41,42,43,44,45,0,3] [.val (.agg #[(I6 0),(U6 0),(St []),S0,(.bool false)]),.val (Pt b1 0),.val (Pt b1 0),.val (Pt b1 1),.val (I6 (ps2.at_ : Int)),.val (Pt b1 0),.val (Pt b1 0),.val (Pt b1 2),.val (I6 ps2.e),.mem (fun _ _ => True),.val (I6 (ps2.at_ : Int))] 9 [(bK b1 [(St ps2.b),(I6 (ps2.at_ : Int)),(I6 ps2.e)] 245),(b0,.cells [(I6 0),(U6 0),(St []),S0,(.bool false)].toArray 89 (0,0)),(bK b3 [(I6 t2.k),(N6 t2.n),(St t2.s),(.slice a2 t2.l.length c2),(.bool t2.o)] 89)] (by kernel_rfl) rfl rfl (by kernel_rfl) (by kernel_rfl) (by kernel_rfl) (by kernel_rfl) (by kernel_rfl) (by kernel_rfl) (by simp only [List.forall_mem_cons]; exact ⟨trivial,trivial,trivial,trivial,trivial,trivial,trivial,trivial,trivial,by intro v V V2 hV2 hP; (first | trivial | exact PhiMono.go hP hV2 | (obtain ⟨g,e,hP⟩ := hP; exact ⟨g,e,hP.le hV2⟩)),trivial,fun _ h => by cases h⟩) (by kernel_rfl) (show (9 : Nat) < 11 by decide) rfl ⟨?_,?_,?_,?_,?_,?_,?_,?_,?_,?_,?_,trivial⟩ [2,3,4,6,45] (fun u => [(Pt b0 0),(I6 (ps2.at_ : Int)),(I6 0),(Pt b3 0),(I6 ps2.e)]) (fun u => by kernel_rfl) ?_
  · exact ObS.o 0 (show (0 : Nat) ≠ 9 by decide) (oqQ 0 rfl (.agg #[(I6 0),(U6 0),(St []),S0,(.bool false)]) (.agg #[(I6 0),(U6 0),(St []),S0,(.bool false)]) rfl rfl (fun u => by kernel_rfl) (fun u => by kernel_rfl)) (oqQ 0 rfl (.agg #[(I6 0),(U6 0),(St []),S0,(.bool false)]) (.agg #[(I6 0),(U6 0),(St []),S0,(.bool false)]) rfl rfl (fun u => by kernel_rfl) (fun u => by kernel_rfl))
  · exact ObS.o 1 (show (1 : Nat) ≠ 9 by decide) (oqQ 1 rfl (Pt b1 0) (Pt b1 0) rfl rfl (fun u => by kernel_rfl) (fun u => by kernel_rfl)) (oqQ 1 rfl (Pt b1 0) (Pt b1 0) rfl rfl (fun u => by kernel_rfl) (fun u => by kernel_rfl))
  · exact ObS.o 2 (show (2 : Nat) ≠ 9 by decide) (oqQ 2 rfl (Pt b1 0) (Pt b1 0) rfl rfl (fun u => by kernel_rfl) (fun u => by kernel_rfl)) (oqQ 2 rfl (Pt b1 0) (Pt b1 0) rfl rfl (fun u => by kernel_rfl) (fun u => by kernel_rfl))
  · exact ObS.o 3 (show (3 : Nat) ≠ 9 by decide) (oqQ 3 rfl (Pt b1 1) (Pt b1 1) rfl rfl (fun u => by kernel_rfl) (fun u => by kernel_rfl)) (oqQ 3 rfl (Pt b1 1) (Pt b1 1) rfl rfl (fun u => by kernel_rfl) (fun u => by kernel_rfl))
  · exact ObS.o 4 (show (4 : Nat) ≠ 9 by decide) (oqL 4 0 b1 1 [(St ps2.b),(I6 (ps2.at_ : Int)),(I6 ps2.e)] 245 rfl (I6 (ps2.at_ : Int)) rfl (by kernel_rfl) (fun u => by kernel_rfl) (fun u => by kernel_rfl)) (oqL 4 0 b1 1 [(St ps2.b),(I6 (ps2.at_ : Int)),(I6 ps2.e)] 245 rfl (I6 (ps2.at_ : Int)) rfl (by kernel_rfl) (fun u => by kernel_rfl) (fun u => by kernel_rfl))
  · exact ObS.o 5 (show (5 : Nat) ≠ 9 by decide) (oqQ 5 rfl (Pt b1 0) (Pt b1 0) rfl rfl (fun u => by kernel_rfl) (fun u => by kernel_rfl)) (oqQ 5 rfl (Pt b1 0) (Pt b1 0) rfl rfl (fun u => by kernel_rfl) (fun u => by kernel_rfl))
  · exact ObS.o 6 (show (6 : Nat) ≠ 9 by decide) (oqQ 6 rfl (Pt b1 0) (Pt b1 0) rfl rfl (fun u => by kernel_rfl) (fun u => by kernel_rfl)) (oqQ 6 rfl (Pt b1 0) (Pt b1 0) rfl rfl (fun u => by kernel_rfl) (fun u => by kernel_rfl))
  · exact ObS.o 7 (show (7 : Nat) ≠ 9 by decide) (oqQ 7 rfl (Pt b1 2) (Pt b1 2) rfl rfl (fun u => by kernel_rfl) (fun u => by kernel_rfl)) (oqQ 7 rfl (Pt b1 2) (Pt b1 2) rfl rfl (fun u => by kernel_rfl) (fun u => by kernel_rfl))
  · exact ObS.o 8 (show (8 : Nat) ≠ 9 by decide) (oqL 8 0 b1 1 [(St ps2.b),(I6 (ps2.at_ : Int)),(I6 ps2.e)] 245 rfl (I6 ps2.e) rfl (by kernel_rfl) (fun u => by kernel_rfl) (fun u => by kernel_rfl)) (oqL 8 0 b1 1 [(St ps2.b),(I6 (ps2.at_ : Int)),(I6 ps2.e)] 245 rfl (I6 ps2.e) rfl (by kernel_rfl) (fun u => by kernel_rfl) (fun u => by kernel_rfl))
  · exact ObS.st 1 b0 (.cells [(I6 0),(U6 0),(St []),S0,(.bool false)].toArray 89 (0,0)) rfl rfl rfl [2,37] (fun u => [(Pt b0 0),(.agg #[(I6 0),(U6 0),(St []),S0,(.bool false)])]) (fun u => by kernel_rfl) (fun u => by kernel_rfl) (by kernel_rfl)
  · exact ObS.o 10 (show (10 : Nat) ≠ 9 by decide) (oqQ 10 rfl (I6 (ps2.at_ : Int)) (I6 (ps2.at_ : Int)) rfl rfl (fun u => by kernel_rfl) (fun u => by kernel_rfl)) (oqQ 10 rfl (I6 (ps2.at_ : Int)) (I6 (ps2.at_ : Int)) rfl rfl (fun u => by kernel_rfl) (fun u => by kernel_rfl))
  intro u10 V10 hV10 hdq10
  refine zq 1 (zn (sx_ret ?_))
  refine sx_ret_any [.cell 2 89,.tmp 3,.tmp 4] [(.agg #[(I6 0),(U6 0),(St []),S0,(.bool false)]),(I6 (ps2.at_ : Int)),(I6 ps2.e)] rfl ⟨(retK' 1 b0 5),retT',retT',trivial⟩ (fun W' hM => ?_)
  have hq := hP2.1 (beq_eq_false_iff_ne.1 h0)
  rw [hq]
  exact retN_of hM (View.le_trans hV2 hV10) ⟨_,_,rfl,beq_eq_false_iff_ne.1 h0⟩
def As.zero : As := ⟨[], 0, ⟨0, [], 0, 0⟩, [], []⟩
def PaRes (x : Option As) (v : Value) (V : View) : Prop := match x with
 | some a => ∃ a1 a2 a3 c1 c2 c3, v = .tuple #[asV a a1 a2 a3 c1 c2 c3, .int .i64 0] ∧ AsAt V a1 a2 a3 a ∧ a.t.length ≤ c1
 | none => v = .tuple #[asV As.zero none none none 0 0 0, .int .i64 2]
theorem parseF_as {a : As} {s : List UInt8} (ho : a.ok) (h : a.right = true) (hs : a.bytes = s) : parseF (([159] ++ s) ++ [255]) = some (.mk 4 0 [] a.items true) := by
 subst hs
 have hp := parse_items ho h
 unfold parseF
 rw [show ([159] ++ a.bytes) ++ [255] = 159 :: (a.bytes ++ [255]) from rfl, hp]
 simp only [if_true]
theorem parseS_noF {s : List UInt8} (h : parseF (([159] ++ s) ++ [255]) = none) : parseS s = none := parseS_none fun a ho hr hs => by
 rw [parseF_as ho hr hs] at h
 cases h
theorem parseS_noR {s : List UInt8} {t : Itm.Tr} (h : parseF (([159] ++ s) ++ [255]) = some t) (h2 : asR t.l = none) : parseS s = none := parseS_none fun a ho hr hs => by
 rw [parseF_as ho hr hs] at h
 obtain rfl := Option.some.inj h
 rw [show (Itm.Tr.mk 4 0 [] a.items true).l = a.items from rfl, read_items hr] at h2
 cases h2
theorem parseS_one {s : List UInt8} {t : Itm.Tr} {a : As} (h : parseF (([159] ++ s) ++ [255]) = some t) (h2 : asR t.l = some a) {b : As} (ho : b.ok) (hr : b.right = true) (hs : b.bytes = s) : b = a := by
 rw [parseF_as ho hr hs] at h
 obtain rfl := Option.some.inj h
 rw [show (Itm.Tr.mk 4 0 [] b.items true).l = b.items from rfl, read_items hr] at h2
 exact Option.some.inj h2
theorem parseS_not {s : List UInt8} {t : Itm.Tr} {a : As} (h : parseF (([159] ++ s) ++ [255]) = some t) (h2 : asR t.l = some a) (h3 : a.right = false ∨ a.bytes ≠ s) : parseS s = none := parseS_none fun b ho hr hs => by
 obtain rfl := parseS_one h h2 ho hr hs
 rcases h3 with h3 | h3
 · rw [h3] at hr; cases hr
 · exact h3 hs
theorem parseF_wide {b : List UInt8} {t : Itm.Tr} (h : parseF b = some t) : Wide t.l := by
 unfold parseF at h
 split at h
 ·
  next t' k hq =>
  split at h
  ·
   obtain rfl := Option.some.inj h
   exact itF_wide2 hq
  · cases h
 · cases h
set_option maxHeartbeats 16000000 in
theorem aParse_any (eA : Addr) (s : List UInt8) (w : World) {U : View} (hU : ∀ a v, U a = some v → w.cell? a = some v) (hE : EF U eA) (hs : s.length ≤ 100000000000) : Calls Tryz.prog 96 #[.string (B s)] w (RetN w U (PaRes (parseS s))) := by
 refine sx_enter (f := 96) 43 U Tryz.func96 rfl rfl rfl hU ?_
 refine zs (zr (sx_N (fun b0 => (zq 1 (zn (zs (zr (sx_C 138 #[(I6 4)] (St [159]) (fun W hM => cOpen4_any W) ?_))))))))
 refine zq 1 (sx_R (St ([159] ++ s)) (run_cat _ _ _ _ rfl [159] s (by kernel_rfl) (by kernel_rfl) (by first | omega | (simp only [List.length_append,List.length_cons,List.length_nil]; omega))) ?_)
 refine sx_C 138 #[(I6 7)] (St [255]) (fun W hM => cOpen7_any W) ?_
 refine sx_R (St (([159] ++ s) ++ [255])) (run_cat _ _ _ _ rfl ([159] ++ s) [255] (by kernel_rfl) (by kernel_rfl) (by first | omega | (simp only [List.length_append,List.length_cons,List.length_nil]; omega))) ?_
 rcases Bool.eq_false_or_eq_true ((parseF (([159] ++ s) ++ [255])).isSome) with h0 | h0
 ·
  refine sx_O 137 #[(St (([159] ++ s) ++ [255]))] (ParseIs (parseF (([159] ++ s) ++ [255]))) (fun W hM => iParse_any (([159] ++ s) ++ [255]) W hM.view (by unfold R47; simp only [List.length_append,List.length_cons,List.length_nil]; omega)) (fun v1 V1 hV1 hP1 => ?_)
  obtain ⟨t1,hq1⟩ := Option.isSome_iff_exists.1 h0
  rw [hq1] at hP1
  obtain ⟨cs1,rfl,ht1⟩ := hP1
  obtain ⟨a1,c1,rfl,hts1,hn1,hs1,hl1⟩ := ht1.form
  refine zq 4 (sx_N (fun b2 => (sx_S 1 b2 (zq 2 (zn (zs (zQ 2 (zn (sx_F (zk (zB [0,2] [(b2,1)] ?_)))))))))))
  rcases Bool.eq_false_or_eq_true ((asR t1.l).isSome) with h1 | h1
  ·
   refine sx_O 139 #[(.slice a1 t1.l.length c1)] (AsRes eA (asR t1.l)) (fun W hM => read_any eA t1.l _ _ W hM.view (hE.le hV1) hts1 (parseF_wide hq1)) (fun v3 V3 hV3 hP3 => ?_)
   obtain ⟨a3,hq3⟩ := Option.isSome_iff_exists.1 h1
   rw [hq3] at hP3
   obtain ⟨x3,y3,z3,u3,v3,w3,rfl,hA3,hc3⟩ := hP3
   have fA3 := hA3.t
   have fB3 := hA3.p
   have fC3 := hA3.r
   refine zq 3 (sx_N (fun b5 => (sx_S 2 b5 (zq 1 (zn (zs (zQ 1 (sx_C 140 #[.nilIface] (.bool false) (fun W hM => isForm_nil eA W hM.view (hE.le (View.le_trans hV1 hV3))) ?_))))))))
   refine sx_B [0,3] [(b5,8)] (sx_C 89 #[(.agg #[(.slice x3 a3.t.length u3),(I6 a3.c),(I6 a3.s.s),(St a3.s.l),(N6 a3.s.n),(N6 a3.s.v),(.slice y3 a3.p.length v3),(.slice z3 a3.r.length w3)])] (.bool (a3.right)) (fun W hM => aRight_any a3 _ _ _ _ _ _ W hM.view ⟨fA3,fB3,fC3,hA3.s⟩ hc3) ?_)
   refine zq 3 (sx_BL 35 (!(a3.right)) (fun h2 => ?_) (fun h2 => ?_))
   ·
    refine zq 5 (zn (sx_T (zQ 1 (sx_S 0 b0 (zq 1 (zn (sx_ret ?_)))))))
    refine sx_ret_any [.cell 2 96,.tmp 3] [(.agg #[S0,(I6 0),(I6 0),(St []),(U6 0),(U6 0),S0,S0]),(I6 2)] rfl ⟨(retK' 0 b0 8),retT',trivial⟩ (fun W' hM => ?_)
    rw [parseS_not hq1 hq3 (.inl (by simpa using h2))]
    exact retN_of hM (View.le_trans hV1 hV3) rfl
   ·
    refine sx_B [3] [(b5,8)] (sx_C 90 #[(.agg #[(.slice x3 a3.t.length u3),(I6 a3.c),(I6 a3.s.s),(St a3.s.l),(N6 a3.s.n),(N6 a3.s.v),(.slice y3 a3.p.length v3),(.slice z3 a3.r.length w3)])] (St (a3.bytes)) (fun W hM => aBld_any a3 _ _ _ _ _ _ W hM.view ⟨fA3,fB3,fC3,hA3.s⟩ (As.shaped (by simpa using h2))) ?_)
    refine zq 1 (sx_R (.bool (!((a3.bytes) == s))) (run_strne _ _ _ _ rfl (a3.bytes) s (by kernel_rfl) (by kernel_rfl)) ?_)
    refine zq 1 (zn (sx_D (!((a3.bytes) == s)) (fun h3 => ?_) (fun h3 => ?_)))
    ·
     refine zQ 1 (sx_S 0 b0 (zq 1 (zn (sx_ret ?_))))
     refine sx_ret_any [.cell 2 96,.tmp 3] [(.agg #[S0,(I6 0),(I6 0),(St []),(U6 0),(U6 0),S0,S0]),(I6 2)] rfl ⟨(retK' 0 b0 8),retT',trivial⟩ (fun W' hM => ?_)
     rw [parseS_not hq1 hq3 (.inr (by simpa using h3))]
     exact retN_of hM (View.le_trans hV1 hV3) rfl
    ·
     refine zk (zB [3] [(b5,8)] (sx_S 0 b0 (zq 1 (zn (sx_ret ?_)))))
     refine sx_ret_any [.cell 2 96,.tmp 3] [(.agg #[(.slice x3 a3.t.length u3),(I6 a3.c),(I6 a3.s.s),(St a3.s.l),(N6 a3.s.n),(N6 a3.s.v),(.slice y3 a3.p.length v3),(.slice z3 a3.r.length w3)]),(I6 0)] rfl ⟨(retK' 0 b0 8),retT',trivial⟩ (fun W' hM => ?_)
     have hA9 : AsAt _ _ _ _ a3 := ⟨fA3,fB3,fC3,hA3.s⟩
     have hby : a3.bytes = s := by simpa using h3
     have hz := parseS_some hA9.ok (show a3.right = true by simpa using h2)
     rw [hby] at hz
     rw [hz]
     exact retN_of hM (View.le_trans hV1 hV3) ⟨_,_,_,_,_,_,rfl,hA9,hc3⟩
  ·
   refine sx_O 139 #[(.slice a1 t1.l.length c1)] (AsRes eA (asR t1.l)) (fun W hM => read_any eA t1.l _ _ W hM.view (hE.le hV1) hts1 (parseF_wide hq1)) (fun v6 V6 hV6 hP6 => ?_)
   have hq6 := Option.not_isSome_iff_eq_none.1 (by rw [h1]; exact Bool.false_ne_true)
   rw [hq6] at hP6
   obtain ⟨xa6,xn6,xc6,xk6,xs6,xl6,xm6,xo6,xp6,xq6,xr6,xt6,xu6,xv6,xe6,rfl⟩ := hP6
   refine zq 3 (sx_N (fun b8 => (sx_S 2 b8 (zq 1 (zn (zs (zQ 1 (sx_C 140 #[(Er.V eA xe6)] (.bool true) (fun W hM => isForm_er eA xe6 W hM.view (hE.le (View.le_trans hV1 hV6))) ?_))))))))
   refine zq 11 (zn (sx_T (zQ 1 (sx_S 0 b0 (zq 1 (zn (sx_ret ?_)))))))
   refine sx_ret_any [.cell 2 96,.tmp 3] [(.agg #[S0,(I6 0),(I6 0),(St []),(U6 0),(U6 0),S0,S0]),(I6 2)] rfl ⟨(retK' 0 b0 8),retT',trivial⟩ (fun W' hM => ?_)
   rw [parseS_noR hq1 hq6]
   exact retN_of hM (View.le_trans hV1 hV6) rfl
 ·
  refine sx_O 137 #[(St (([159] ++ s) ++ [255]))] (ParseIs (parseF (([159] ++ s) ++ [255]))) (fun W hM => iParse_any (([159] ++ s) ++ [255]) W hM.view (by unfold R47; simp only [List.length_append,List.length_cons,List.length_nil]; omega)) (fun v9 V9 hV9 hP9 => ?_)
  have hq9 := Option.not_isSome_iff_eq_none.1 (by rw [h0]; exact Bool.false_ne_true)
  rw [hq9] at hP9
  obtain ⟨n9,e9,rfl,hz9⟩ := hP9
  refine zq 4 (sx_N (fun b10 => (sx_S 1 b10 (zq 2 (zn (zs (zQ 2 (zn (sx_T' (e9 != 0) (bne_iff_ne.2 hz9) ?_)))))))))
  refine zQ 1 (sx_S 0 b0 (zq 1 (zn (sx_ret ?_))))
  refine sx_ret_any [.cell 2 96,.tmp 3] [(.agg #[S0,(I6 0),(I6 0),(St []),(U6 0),(U6 0),S0,S0]),(I6 2)] rfl ⟨(retK' 0 b0 8),retT',trivial⟩ (fun W' hM => ?_)
  rw [parseS_noF hq9]
  exact retN_of hM hV9 rfl
def thereOk (l : List Bk) (o : Op) : Bool := (getB l o.t).2 || o.t == 0
theorem among1_any (x : Op) (kind target : Int) (pk pt : Nat) (w : World) {U : View} (hU : ∀ a v, U a = some v → w.cell? a = some v) (hk : U ⟨pk, 0, none⟩ = some (.int .i64 kind)) (ht : U ⟨pt, 0, none⟩ = some (.int .i64 target)) : Calls Tryz.prog 165 #[x.V, .pointer (some ⟨pk, 0, none⟩), .pointer (some ⟨pt, 0, none⟩)] w (Ret (.bool (x.k == kind && x.t == target)) w) := by
 refine sx_enter (f := 165) 15 U Tryz.func165 rfl rfl rfl hU ?_
 refine zs (zr (sx_N (fun b0 => (zq 1 (zn (zB [0,1] [(b0,1)] (zV pk (0) (I6 kind) hk 3 (.tmp 1) _ Tryz.underlying3 rfl ?_)))))))
 refine zq 2 (sx_BL 9 (x.k == kind) (fun h0 => ?_) (fun h0 => ?_))
 ·
  refine sx_B [0,1] [(b0,1)] (zV pt (0) (I6 target) ht 3 (.tmp 2) _ Tryz.underlying3 rfl ?_)
  refine zq 3 (zn (sx_ret (sx_Z [4] [(.bool (x.t == target))] (fun W' hM => ?_))))
  exact ⟨by simp only [resV,h0,bs,if_true,if_false,cond_true,cond_false,reduceIte],hM.below⟩
 ·
  refine zq 6 (zn (sx_ret (sx_Z [4] [(.bool false)] (fun W' hM => ?_))))
  exact ⟨by simp only [resV,h0,bs,if_true,if_false,cond_true,cond_false,reduceIte],hM.below⟩
def amIdx (kind target : Int) : Nat → List Op → Int
 | _, [] => -1
 | i, x :: r => if x.k == kind && x.t == target then (i : Int) else amIdx kind target (i + 1) r
theorem amIdx_drop {kind target : Int} {l : List Op} {i : Nat} {y : Op} (h : l[i]? = some y) : amIdx kind target i (l.drop i) = if y.k == kind && y.t == target then (i : Int) else amIdx kind target (i + 1) (l.drop (i + 1)) := by
 rw [drop_some h, amIdx]
theorem amIdx_has (kind target : Int) : ∀ (i : Nat) (l : List Op), decide (amIdx kind target i l ≥ 0) = amongB l kind target
 | _, [] => rfl
 | i, x :: r => by
  have ih := amIdx_has kind target (i + 1) r
  unfold amongB at ih ⊢
  rw [amIdx, List.any_cons]
  cases x.k == kind && x.t == target with
  | true => simp
  | false => simpa using ih
theorem amIdx_any (l : List Op) (a : Option Addr) (c : Nat) (kind target : Int) (pk pt : Nat) (w : World) {U : View} (hU : ∀ a v, U a = some v → w.cell? a = some v) (hl : LsAt OpR 3 U a l) (hk : U ⟨pk, 0, none⟩ = some (.int .i64 kind)) (ht : U ⟨pt, 0, none⟩ = some (.int .i64 target)) :
    Calls Tryz.prog 126 #[.slice a l.length c, .func (.func 165) #[] #[.pointer (some ⟨pk, 0, none⟩), .pointer (some ⟨pt, 0, none⟩)]] w (Ret (.int .i64 (amIdx kind target 0 l)) w) := by
 have hlen := hl.len
 unfold R47 at hlen
 refine sx_enter (f := 126) 19 U Tryz.func126 rfl rfl rfl hU ?_
 refine zQ 1 (zn (zs (zQ 3 (zn (sx_block ?_)))))
 refine sx_loop (α := Nat) (fun x => [0,1,4,7,8].zip [(.slice a l.length c),(.func (.func 165) #[] #[(Pt pk 0),(Pt pt 0)]),(I6 0),(L6 l.length),(L6 x)]) (fun x => U) (fun x => []) (fun x => x ≤ l.length ∧ amIdx kind target x (l.drop x) = amIdx kind target 0 l) (fun x => l.length - x) 0 ?_ (look_zip _ _ (by kernel_rfl)) (fun _ h => h.eqv (by kernel_rfl)) ?_
 · exact ⟨Nat.zero_le _,rfl⟩
 intro x hx
 obtain ⟨hx1,hx2⟩ := hx
 refine zQ 1 (zn (zs (sx_D (decide (((x : Nat) : Int) < (((l.length : Nat)) : Int))) (fun h0 => ?_) (fun h0 => ?_))))
 ·
  have h0d := of_decide_eq_true h0
  refine zk (zs (sx_block (zQ 2 (zn (zQ 3 ?_)))))
  obtain ⟨y0,hy0⟩ : ∃ y,(l)[x]? = some y := ⟨(l)[x]'(by omega),List.getElem?_eq_getElem _⟩
  obtain ⟨b0,f0,cs0,rfl,hU0,hR0⟩ := hl.at_ x y0 hy0
  obtain rfl := hR0
  refine sx_R (Pt b0 (f0 + x * 3)) (rIx 153 rfl b0 f0 l.length c x 3) ?_
  refine zU b0 (f0 + x * 3) [(I6 y0.k),(I6 y0.n),(I6 y0.t)] hU0 153 (.tmp 14) _ Tryz.underlying153 rfl ?_
  refine sx_C 165 #[(.agg #[(I6 y0.k),(I6 y0.n),(I6 y0.t)]),(Pt pk 0),(Pt pt 0)] (.bool (y0.k == kind && y0.t == target)) (fun W hM => among1_any y0 kind target pk pt W hM.view hk ht) ?_
  refine zn (sx_D (y0.k == kind && y0.t == target) (fun h1 => ?_) (fun h1 => ?_))
  ·
   refine zQ 2 (zn (sx_ret (sx_Z [4] [(L6 x)] (fun W' hM => ?_))))
   refine ⟨?_,hM.below⟩
   rw [← hx2,amIdx_drop hy0,if_pos h1]
   rfl
  ·
   refine zk (zr (zq 1 (sx_E 18 (I6 (IntKind.i64.wrap (((x : Nat) : Int) + 1))) (I6 (((x : Nat) : Int) + 1)) i6v ?_)))
   refine zq 1 (zn ?_)
   refine ⟨(x + 1),?_,?_,look_zip _ _ (by kernel_rfl),fun _ h => h.eqv (by kernel_rfl)⟩
   · exact ⟨by omega,by rw [← hx2,amIdx_drop hy0,h1]; rfl⟩
   · show l.length - (x + 1) < l.length - x; omega
 ·
  have h0d := of_decide_eq_false h0
  refine sx_exit (zQ 1 (zn (sx_ret (sx_Z [4] [(I6 (-1))] (fun W' hM => ?_)))))
  refine ⟨?_,hM.below⟩
  rw [← hx2,drop_all (by omega)]
  rfl
theorem amAny_any (l : List Op) (a : Option Addr) (c : Nat) (kind target : Int) (pk pt : Nat) (w : World) {U : View} (hU : ∀ a v, U a = some v → w.cell? a = some v) (hl : LsAt OpR 3 U a l) (hk : U ⟨pk, 0, none⟩ = some (.int .i64 kind)) (ht : U ⟨pt, 0, none⟩ = some (.int .i64 target)) :
    Calls Tryz.prog 164 #[.slice a l.length c, .func (.func 165) #[] #[.pointer (some ⟨pk, 0, none⟩), .pointer (some ⟨pt, 0, none⟩)]] w (Ret (.bool (amongB l kind target)) w) := by
 refine sx_enter (f := 164) 9 U Tryz.func164 rfl rfl rfl hU ?_
 refine zQ 1 (zn (zQ 2 (sx_C 126 #[(.slice a l.length c),(.func (.func 165) #[] #[(Pt pk 0),(Pt pt 0)])] (I6 (amIdx kind target 0 l)) (fun W hM => amIdx_any l _ _ kind target pk pt W hM.view hl hk ht) ?_)))
 refine zq 2 (zn (sx_ret (sx_Z [4] [(.bool (decide ((amIdx kind target 0 l) ≥ 0)))] (fun W' hM => ?_))))
 exact ⟨by rw [← amIdx_has kind target 0 l]; rfl,hM.below⟩
theorem among_any (l : List Op) (a : Option Addr) (c : Nat) (kind target : Int) (w : World) {U : View} (hU : ∀ a v, U a = some v → w.cell? a = some v) (hl : LsAt OpR 3 U a l) : Calls Tryz.prog 125 #[.slice a l.length c, .int .i64 kind, .int .i64 target] w (Ret (.bool (amongB l kind target)) w) := by
 refine sx_enter (f := 125) 10 U Tryz.func125 rfl rfl rfl hU ?_
 refine zs (zr (sx_N (fun b0 => (sx_N (fun b1 => (zq 1 (zn (zQ 2 ?_))))))))
 refine sx_freeze [] [(bK b1 [(I6 target)] 3)] b0 [(I6 kind)] 3 (by kernel_rfl) (fun V2 hV2 hR2 => ?_)
 have k3 := hl.le hV2
 refine sx_freeze [] [] b1 [(I6 target)] 3 (by kernel_rfl) (fun V4 hV4 hR4 => ?_)
 have k5 := k3.le hV4
 refine sx_C 164 #[(.slice a l.length c),(.func (.func 165) #[] #[(Pt b0 0),(Pt b1 0)])] (.bool (amongB l kind target)) (fun W hM => amAny_any l _ _ kind target b0 b1 W hM.view k5 ((View.range_le hV4 hR2) 0 _ rfl) (hR4 0 _ rfl)) ?_
 refine zq 1 (zn (sx_ret (sx_Z [6] [(.bool (amongB l kind target))] (fun W' hM => ?_))))
 exact ⟨rfl,hM.below⟩
theorem safe_any (x : Bk) (w : World) : Calls Tryz.prog 167 #[x.V] w (Ret (.bool (safeB x)) w) := by
 refine sx_enter (f := 167) 11 View.no Tryz.func167 rfl rfl rfl (fun _ _ h => by cases h) ?_
 refine zs (zr (sx_N (fun b0 => (zq 1 (zn (zB [0,1,0,0] [(b0,1)] (sx_BL 6 (x.t == 11) (fun h0 => ?_) (fun h0 => ?_))))))))
 ·
  refine zq 5 (zn (sx_ret (sx_Z [2] [(.bool true)] (fun W' hM => ?_))))
  exact ⟨by simp only [resV,safeB,h0,bs,if_true,if_false,cond_true,cond_false,reduceIte],hM.below⟩
 ·
  refine sx_B [0,1,0,0,0] [(b0,1)] (zn (sx_ret (sx_Z [2] [(.bool (x.t == 12))] (fun W' hM => ?_))))
  exact ⟨by simp only [resV,safeB,h0,bs,if_true,if_false,cond_true,cond_false,reduceIte],hM.below⟩
theorem changes_any (x : Bk) (w : World) : Calls Tryz.prog 168 #[x.V] w (Ret (.bool (changesB x)) w) := by
 refine sx_enter (f := 168) 16 View.no Tryz.func168 rfl rfl rfl (fun _ _ h => by cases h) ?_
 refine zs (zr (sx_N (fun b0 => (zq 1 (zn (zB [0,1,0,0] [(b0,1)] (sx_BL 6 (x.t == 6) (fun h0 => ?_) (fun h0 => ?_))))))))
 ·
  refine zq 10 (zn (sx_ret (sx_Z [2] [(.bool true)] (fun W' hM => ?_))))
  exact ⟨by simp only [resV,changesB,h0,bs,if_true,if_false,cond_true,cond_false,reduceIte],hM.below⟩
 ·
  refine sx_B [0,1,0,0,0] [(b0,1)] (sx_BL 11 (x.t == 7) (fun h1 => ?_) (fun h1 => ?_))
  ·
   refine zq 5 (zn (sx_ret (sx_Z [2] [(.bool true)] (fun W' hM => ?_))))
   exact ⟨by simp only [resV,changesB,h0,h1,bs,if_true,if_false,cond_true,cond_false,reduceIte],hM.below⟩
  ·
   refine sx_B [0,1,0,0,0] [(b0,1)] (zn (sx_ret (sx_Z [2] [(.bool (x.t == 10))] (fun W' hM => ?_))))
   exact ⟨by simp only [resV,changesB,h0,h1,bs,if_true,if_false,cond_true,cond_false,reduceIte],hM.below⟩
def sfIdx : Nat → List Bk → Int
 | _, [] => -1
 | i, x :: r => if safeB x then (i : Int) else sfIdx (i + 1) r
theorem sfIdx_drop {l : List Bk} {i : Nat} {y : Bk} (h : l[i]? = some y) : sfIdx i (l.drop i) = if safeB y then (i : Int) else sfIdx (i + 1) (l.drop (i + 1)) := by
 rw [drop_some h, sfIdx]
theorem sfIdx_has : ∀ (i : Nat) (l : List Bk), decide (sfIdx i l ≥ 0) = l.any safeB
 | _, [] => rfl
 | i, x :: r => by
  rw [sfIdx, List.any_cons]
  cases safeB x with
  | true => simp
  | false => simpa using sfIdx_has (i + 1) r
theorem sfIdx_any (l : List Bk) (a : Option Addr) (c : Nat) (w : World) {U : View} (hU : ∀ a v, U a = some v → w.cell? a = some v) (hl : BksAt U a l) : Calls Tryz.prog 67 #[.slice a l.length c, .func (.func 167) #[] #[]] w (Ret (.int .i64 (sfIdx 0 l)) w) := by
 have hlen := hl.len
 unfold R47 at hlen
 refine sx_enter (f := 67) 19 U Tryz.func67 rfl rfl rfl hU ?_
 refine zQ 1 (zn (zs (zQ 3 (zn (sx_block ?_)))))
 refine sx_loop (α := Nat) (fun x => [0,1,4,7,8].zip [(.slice a l.length c),(.func (.func 167) #[] #[]),(I6 0),(L6 l.length),(L6 x)]) (fun x => U) (fun x => []) (fun x => x ≤ l.length ∧ sfIdx x (l.drop x) = sfIdx 0 l) (fun x => l.length - x) 0 ?_ (look_zip _ _ (by kernel_rfl)) (fun _ h => h.eqv (by kernel_rfl)) ?_
 · exact ⟨Nat.zero_le _,rfl⟩
 intro x hx
 obtain ⟨hx1,hx2⟩ := hx
 refine zQ 1 (zn (zs (sx_D (decide (((x : Nat) : Int) < (((l.length : Nat)) : Int))) (fun h0 => ?_) (fun h0 => ?_))))
 ·
  have h0d := of_decide_eq_true h0
  refine zk (zs (sx_block (zQ 2 (zn (zQ 3 ?_)))))
  obtain ⟨y0,hy0⟩ : ∃ y,(l)[x]? = some y := ⟨(l)[x]'(by omega),List.getElem?_eq_getElem _⟩
  obtain ⟨b0,f0,rfl,hU0⟩ := hl.at_ x y0 hy0
  refine sx_R (Pt b0 (f0 + x * 5)) (rIx 38 rfl b0 f0 l.length c x 5) ?_
  refine zU b0 (f0 + x * 5) y0.cs hU0 38 (.tmp 14) _ Tryz.underlying38 rfl ?_
  refine sx_C 167 #[(y0.V)] (.bool (safeB y0)) (fun W hM => safe_any y0 W) ?_
  refine zn (sx_D (safeB y0) (fun h1 => ?_) (fun h1 => ?_))
  ·
   refine zQ 2 (zn (sx_ret (sx_Z [4] [(L6 x)] (fun W' hM => ?_))))
   refine ⟨?_,hM.below⟩
   rw [← hx2,sfIdx_drop hy0,if_pos h1]
   rfl
  ·
   refine zk (zr (zq 1 (sx_E 18 (I6 (IntKind.i64.wrap (((x : Nat) : Int) + 1))) (I6 (((x : Nat) : Int) + 1)) i6v ?_)))
   refine zq 1 (zn ?_)
   refine ⟨(x + 1),?_,?_,look_zip _ _ (by kernel_rfl),fun _ h => h.eqv (by kernel_rfl)⟩
   · exact ⟨by omega,by rw [← hx2,sfIdx_drop hy0,h1]; rfl⟩
   · show l.length - (x + 1) < l.length - x; omega
 ·
  have h0d := of_decide_eq_false h0
  refine sx_exit (zQ 1 (zn (sx_ret (sx_Z [4] [(I6 (-1))] (fun W' hM => ?_)))))
  refine ⟨?_,hM.below⟩
  rw [← hx2,drop_all (by omega)]
  rfl
theorem sfAny_any (l : List Bk) (a : Option Addr) (c : Nat) (w : World) {U : View} (hU : ∀ a v, U a = some v → w.cell? a = some v) (hl : BksAt U a l) : Calls Tryz.prog 166 #[.slice a l.length c, .func (.func 167) #[] #[]] w (Ret (.bool (l.any safeB)) w) := by
 refine sx_enter (f := 166) 9 U Tryz.func166 rfl rfl rfl hU ?_
 refine zQ 1 (zn (zQ 2 (sx_C 67 #[(.slice a l.length c),(.func (.func 167) #[] #[])] (I6 (sfIdx 0 l)) (fun W hM => sfIdx_any l _ _ W hM.view hl) ?_)))
 refine zq 2 (zn (sx_ret (sx_Z [4] [(.bool (decide ((sfIdx 0 l) ≥ 0)))] (fun W' hM => ?_))))
 exact ⟨by rw [← sfIdx_has 0 l]; rfl,hM.below⟩
theorem whole_any (p : Pr) (l : List Bk) (a : Option Addr) (c : Nat) (q : List Op) (aQ : Option Addr) (cQ : Nat) (w : World) {U : View} (hU : ∀ a v, U a = some v → w.cell? a = some v) (hl : BksAt U a l) (hq : LsAt OpR 3 U aQ q) : Calls Tryz.prog 127 #[bnV p a l.length c, .slice aQ q.length cQ] w (Ret (.bool (wholeB p l)) w) := by
 refine sx_enter (f := 127) 16 U Tryz.func127 rfl rfl rfl hU ?_
 refine zs (zr (sx_N (fun b0 => (zq 1 (zn (zB [0,0,1,0,0,0] [(b0,1)] (sx_BL 10 ((andI .u64 (p.f : Int) 1) == 0) (fun h0 => ?_) (fun h0 => ?_))))))))
 ·
  refine zq 6 (zn (sx_ret (sx_Z [4] [(.bool true)] (fun W' hM => ?_))))
  exact ⟨by simp only [resV,wholeB,h0,bs,if_true,if_false,cond_true,cond_false,reduceIte],hM.below⟩
 ·
  refine sx_B [0,1] [(b0,1)] (sx_C 166 #[(.slice a l.length c),(.func (.func 167) #[] #[])] (.bool (l.any safeB)) (fun W hM => sfAny_any l _ _ W hM.view hl) ?_)
  refine zq 3 (zn (sx_ret (sx_Z [4] [(.bool (!(l.any safeB)))] (fun W' hM => ?_))))
  exact ⟨by simp only [resV,wholeB,h0,bs,if_true,if_false,cond_true,cond_false,reduceIte],hM.below⟩
theorem there_any (p : Pr) (l : List Bk) (a : Option Addr) (c : Nat) (q : List Op) (aQ : Option Addr) (cQ : Nat) (w : World) {U : View} (hU : ∀ a v, U a = some v → w.cell? a = some v) (hl : BksAt U a l) (hq : LsAt OpR 3 U aQ q) : Calls Tryz.prog 128 #[bnV p a l.length c, .slice aQ q.length cQ] w (Ret (.bool (thereB l q)) w) := by
 have hlen := hq.len
 unfold R47 at hlen
 refine sx_enter (f := 128) 30 U Tryz.func128 rfl rfl rfl hU ?_
 refine zs (zr (sx_N (fun b0 => (zq 1 (zn (zs (zQ 3 (zn (sx_block ?_)))))))))
 refine sx_loop (α := Nat) (fun x => [2,4,9,10,11].zip [(Pt b0 0),(.bool false),(.slice aQ q.length cQ),(L6 q.length),(L6 x)]) (fun x => U) (fun x => [(bK b0 (bnCs p a l.length c) 29)]) (fun x => x ≤ q.length ∧ (q.drop x).all (thereOk l) = q.all (thereOk l)) (fun x => q.length - x) 0 ?_ (look_zip _ _ (by kernel_rfl)) (fun _ h => h.eqv (by kernel_rfl)) ?_
 · exact ⟨Nat.zero_le _,rfl⟩
 intro x hx
 obtain ⟨hx1,hx2⟩ := hx
 refine zQ 1 (zn (zs (sx_D (decide (((x : Nat) : Int) < (((q.length : Nat)) : Int))) (fun h0 => ?_) (fun h0 => ?_))))
 ·
  have h0d := of_decide_eq_true h0
  refine zk (zs (sx_block (zs (zr ?_))))
  obtain ⟨y1,hy1⟩ : ∃ y,(q)[x]? = some y := ⟨(q)[x]'(by omega),List.getElem?_eq_getElem _⟩
  obtain ⟨b1,f1,cs1,rfl,hU1,hR1⟩ := hq.at_ x y1 hy1
  obtain rfl := hR1
  refine sx_R (Pt b1 (f1 + x * 3)) (rIx 153 rfl b1 f1 q.length cQ x 3) ?_
  refine zU b1 (f1 + x * 3) [(I6 y1.k),(I6 y1.n),(I6 y1.t)] hU1 153 (.tmp 13) _ Tryz.underlying153 rfl ?_
  refine sx_N (fun b2 => (sx_S 1 b2 (zn (zB [1,0,2] [(b0,20),(b2,1)] (sx_C 64 #[(bnV p a l.length c),(I6 y1.t)] (.tuple #[(.agg #[(I6 (getB l y1.t).1.t),(I6 (getB l y1.t).1.n),(N6 (getB l y1.t).1.f),(I6 (getB l y1.t).1.c),(St (getB l y1.t).1.d)]),(.bool (getB l y1.t).2)]) (fun W hM => bGet_any p l _ _ y1.t W hM.view hl) ?_)))))
  refine zq 3 (sx_N (fun b3 => (sx_S 2 b3 (zq 1 (zn (zQ 3 (sx_BL 24 (!(getB l y1.t).2) (fun h1 => ?_) (fun h1 => ?_))))))))
  ·
   refine sx_B [0,2,0,0] [(b2,1)] (zn (sx_D (y1.t != 0) (fun h2 => ?_) (fun h2 => ?_)))
   ·
    have h2d := bne_iff_ne.1 h2
    refine zQ 1 (zn (sx_ret (sx_Z [4] [(.bool false)] (fun W' hM => ?_))))
    refine ⟨?_,hM.below⟩
    unfold thereB
    show _ = Ending.returned (Value.bool (q.all (thereOk l)))
    rw [← hx2,drop_some hy1,List.all_cons]
    simp only [Bool.not_eq_true',Bool.not_eq_false'] at h1
    show Ending.returned (Value.bool false) = _
    simp [thereOk,h1,h2d]
   ·
    have h2d := bne_eq_false_iff_eq.1 h2
    refine zk (zr (zq 1 (sx_E 29 (I6 (IntKind.i64.wrap (((x : Nat) : Int) + 1))) (I6 (((x : Nat) : Int) + 1)) i6v ?_)))
    refine zq 1 (zn ?_)
    refine ⟨(x + 1),?_,?_,look_zip _ _ (by kernel_rfl),fun _ h => Mem.sub (List.sublist_append_left _ _) (h.eqv (show _ = ([(bK b0 (bnCs p a l.length c) 29)] : Blks) ++ ([(bK b2 [(I6 y1.k),(I6 y1.n),(I6 y1.t)] 153),(bK b3 [(I6 (getB l y1.t).1.t),(I6 (getB l y1.t).1.n),(N6 (getB l y1.t).1.f),(I6 (getB l y1.t).1.c),(St (getB l y1.t).1.d)] 38)] : Blks) from by kernel_rfl))⟩
    · exact ⟨by omega,by simp only [Bool.not_eq_true',Bool.not_eq_false'] at h1; rw [← hx2,drop_some hy1,List.all_cons]; simp [thereOk,h1,h2d]⟩
    · show q.length - (x + 1) < q.length - x; omega
  ·
   refine zq 4 (zn (sx_F (zk (zr (zq 1 (sx_E 29 (I6 (IntKind.i64.wrap (((x : Nat) : Int) + 1))) (I6 (((x : Nat) : Int) + 1)) i6v ?_))))))
   refine zq 1 (zn ?_)
   refine ⟨(x + 1),?_,?_,look_zip _ _ (by kernel_rfl),fun _ h => Mem.sub (List.sublist_append_left _ _) (h.eqv (show _ = ([(bK b0 (bnCs p a l.length c) 29)] : Blks) ++ ([(bK b2 [(I6 y1.k),(I6 y1.n),(I6 y1.t)] 153),(bK b3 [(I6 (getB l y1.t).1.t),(I6 (getB l y1.t).1.n),(N6 (getB l y1.t).1.f),(I6 (getB l y1.t).1.c),(St (getB l y1.t).1.d)] 38)] : Blks) from by kernel_rfl))⟩
   · exact ⟨by omega,by simp only [Bool.not_eq_true',Bool.not_eq_false'] at h1; rw [← hx2,drop_some hy1,List.all_cons]; simp [thereOk,h1]⟩
   · show q.length - (x + 1) < q.length - x; omega
 ·
  have h0d := of_decide_eq_false h0
  refine sx_exit (zQ 1 (zn (sx_ret (sx_Z [4] [(.bool true)] (fun W' hM => ?_)))))
  refine ⟨?_,hM.below⟩
  unfold thereB
  show _ = Ending.returned (Value.bool (q.all (thereOk l)))
  rw [← hx2,drop_all (by omega)]
  rfl
set_option maxHeartbeats 16000000 in
theorem signs_any (p : Pr) (l : List Bk) (a : Option Addr) (c : Nat) (q : List Op) (aQ : Option Addr) (cQ : Nat) (w : World) {U : View} (hU : ∀ a v, U a = some v → w.cell? a = some v) (hl : BksAt U a l) (hq : LsAt OpR 3 U aQ q) : Calls Tryz.prog 131 #[bnV p a l.length c, .slice aQ q.length cQ] w (Ret (.bool (signsB l q)) w) := by
 have hlen := hq.len
 unfold R47 at hlen
 refine sx_enter (f := 131) 43 U Tryz.func131 rfl rfl rfl hU ?_
 refine zs (zr (sx_N (fun b0 => (zq 1 (zn (zs (zQ 3 (zn (sx_block ?_)))))))))
 refine sx_loop (α := Nat) (fun x => [1,2,4,9,10,11].zip [(.slice aQ q.length cQ),(Pt b0 0),(.bool false),(.slice aQ q.length cQ),(L6 q.length),(L6 x)]) (fun x => U) (fun x => [(bK b0 (bnCs p a l.length c) 29)]) (fun x => x ≤ q.length ∧ (q.drop x).all (signOk l q) = q.all (signOk l q)) (fun x => q.length - x) 0 ?_ (look_zip _ _ (by kernel_rfl)) (fun _ h => h.eqv (by kernel_rfl)) ?_
 · exact ⟨Nat.zero_le _,rfl⟩
 intro x hx
 obtain ⟨hx1,hx2⟩ := hx
 refine zQ 1 (zn (zs (sx_D (decide (((x : Nat) : Int) < (((q.length : Nat)) : Int))) (fun h0 => ?_) (fun h0 => ?_))))
 ·
  have h0d := of_decide_eq_true h0
  refine zk (zs (sx_block (zs (zr ?_))))
  obtain ⟨y1,hy1⟩ : ∃ y,(q)[x]? = some y := ⟨(q)[x]'(by omega),List.getElem?_eq_getElem _⟩
  obtain ⟨b1,f1,cs1,rfl,hU1,hR1⟩ := hq.at_ x y1 hy1
  obtain rfl := hR1
  refine sx_R (Pt b1 (f1 + x * 3)) (rIx 153 rfl b1 f1 q.length cQ x 3) ?_
  refine zU b1 (f1 + x * 3) [(I6 y1.k),(I6 y1.n),(I6 y1.t)] hU1 153 (.tmp 13) _ Tryz.underlying153 rfl ?_
  refine sx_N (fun b2 => (sx_S 1 b2 (zn (zs (zB [0,2,0,0] [(b2,1)] (sx_BL 18 (y1.k != 1) (fun h1 => ?_) (fun h1 => ?_)))))))
  ·
   have h1d := bne_iff_ne.1 h1
   refine zq 4 (zn (sx_T (sx_exit (zr (zq 1 (sx_E 42 (I6 (IntKind.i64.wrap (((x : Nat) : Int) + 1))) (I6 (((x : Nat) : Int) + 1)) i6v ?_))))))
   refine zq 1 (zn ?_)
   refine ⟨(x + 1),?_,?_,look_zip _ _ (by kernel_rfl),fun _ h => Mem.sub (List.sublist_append_left _ _) (h.eqv (show _ = ([(bK b0 (bnCs p a l.length c) 29)] : Blks) ++ ([(bK b2 [(I6 y1.k),(I6 y1.n),(I6 y1.t)] 153)] : Blks) from by kernel_rfl))⟩
   · exact ⟨by omega,by rw [← hx2,drop_some hy1,List.all_cons]; simp [signOk,h1d]⟩
   · show q.length - (x + 1) < q.length - x; omega
  ·
   have h1d := bne_eq_false_iff_eq.1 h1
   refine sx_B [0,2,0,0] [(b2,1)] (zn (sx_D (y1.t == 0) (fun h2 => ?_) (fun h2 => ?_)))
   ·
    have h2d := eq_of_beq h2
    refine sx_exit (zr (zq 1 (sx_E 42 (I6 (IntKind.i64.wrap (((x : Nat) : Int) + 1))) (I6 (((x : Nat) : Int) + 1)) i6v ?_)))
    refine zq 1 (zn ?_)
    refine ⟨(x + 1),?_,?_,look_zip _ _ (by kernel_rfl),fun _ h => Mem.sub (List.sublist_append_left _ _) (h.eqv (show _ = ([(bK b0 (bnCs p a l.length c) 29)] : Blks) ++ ([(bK b2 [(I6 y1.k),(I6 y1.n),(I6 y1.t)] 153)] : Blks) from by kernel_rfl))⟩
    · exact ⟨by omega,by rw [← hx2,drop_some hy1,List.all_cons]; simp [signOk,h1d,h2d]⟩
    · show q.length - (x + 1) < q.length - x; omega
   ·
    have h2d := beq_eq_false_iff_ne.1 h2
    refine zk (zB [1,0,2] [(b0,20),(b2,1)] (sx_C 64 #[(bnV p a l.length c),(I6 y1.t)] (.tuple #[(.agg #[(I6 (getB l y1.t).1.t),(I6 (getB l y1.t).1.n),(N6 (getB l y1.t).1.f),(I6 (getB l y1.t).1.c),(St (getB l y1.t).1.d)]),(.bool (getB l y1.t).2)]) (fun W hM => bGet_any p l _ _ y1.t W hM.view hl) ?_))
    refine zq 3 (sx_N (fun b3 => (sx_S 2 b3 (zq 1 (zn (zB [3] [(b3,5)] (sx_C 167 #[(.agg #[(I6 (getB l y1.t).1.t),(I6 (getB l y1.t).1.n),(N6 (getB l y1.t).1.f),(I6 (getB l y1.t).1.c),(St (getB l y1.t).1.d)])] (.bool (safeB (getB l y1.t).1)) (fun W hM => safe_any (getB l y1.t).1 W) ?_)))))))
    refine zq 1 (sx_BL 32 (safeB (getB l y1.t).1) (fun h3 => ?_) (fun h3 => ?_))
    ·
     refine zq 9 (zn (sx_T (zQ 1 (zn (sx_ret (sx_Z [4] [(.bool false)] (fun W' hM => ?_)))))))
     refine ⟨?_,hM.below⟩
     unfold signsB
     rw [← hx2,drop_some hy1,List.all_cons]
     show Ending.returned (Value.bool false) = _
     simp [signOk,h1d,h2d,h3]
    ·
     refine sx_B [3] [(b3,5)] (sx_C 168 #[(.agg #[(I6 (getB l y1.t).1.t),(I6 (getB l y1.t).1.n),(N6 (getB l y1.t).1.f),(I6 (getB l y1.t).1.c),(St (getB l y1.t).1.d)])] (.bool (changesB (getB l y1.t).1)) (fun W hM => changes_any (getB l y1.t).1 W) ?_)
     refine zq 2 (sx_BL 36 (changesB (getB l y1.t).1) (fun h4 => ?_) (fun h4 => ?_))
     ·
      refine zq 5 (zn (sx_T (zQ 1 (zn (sx_ret (sx_Z [4] [(.bool false)] (fun W' hM => ?_)))))))
      refine ⟨?_,hM.below⟩
      unfold signsB
      rw [← hx2,drop_some hy1,List.all_cons]
      show Ending.returned (Value.bool false) = _
      simp [signOk,h1d,h2d,h3,h4]
     ·
      refine sx_B [0,0,2] [(b2,1)] (sx_C 125 #[(Sl b1 f1 q.length cQ),(I6 2),(I6 y1.t)] (.bool (amongB q 2 y1.t)) (fun W hM => among_any q _ _ 2 y1.t W hM.view hq) ?_)
      refine zq 1 (zn (sx_D (amongB q 2 y1.t) (fun h5 => ?_) (fun h5 => ?_)))
      ·
       refine zQ 1 (zn (sx_ret (sx_Z [4] [(.bool false)] (fun W' hM => ?_))))
       refine ⟨?_,hM.below⟩
       unfold signsB
       rw [← hx2,drop_some hy1,List.all_cons]
       show Ending.returned (Value.bool false) = _
       simp [signOk,h1d,h2d,h3,h4,h5]
      ·
       refine zk (zr (zq 1 (sx_E 42 (I6 (IntKind.i64.wrap (((x : Nat) : Int) + 1))) (I6 (((x : Nat) : Int) + 1)) i6v ?_)))
       refine zq 1 (zn ?_)
       refine ⟨(x + 1),?_,?_,look_zip _ _ (by kernel_rfl),fun _ h => Mem.sub (List.sublist_append_left _ _) (h.eqv (show _ = ([(bK b0 (bnCs p a l.length c) 29)] : Blks) ++ ([(bK b2 [(I6 y1.k),(I6 y1.n),(I6 y1.t)] 153),(bK b3 [(I6 (getB l y1.t).1.t),(I6 (getB l y1.t).1.n),(N6 (getB l y1.t).1.f),(I6 (getB l y1.t).1.c),(St (getB l y1.t).1.d)] 38)] : Blks) from by kernel_rfl))⟩
       · exact ⟨by omega,by rw [← hx2,drop_some hy1,List.all_cons]; simp [signOk,h1d,h2d,h3,h4,h5]⟩
       · show q.length - (x + 1) < q.length - x; omega
 ·
  have h0d := of_decide_eq_false h0
  refine sx_exit (zQ 1 (zn (sx_ret (sx_Z [4] [(.bool true)] (fun W' hM => ?_)))))
  refine ⟨?_,hM.below⟩
  unfold signsB
  rw [← hx2,drop_all (by omega)]
  rfl
def badSeal (l : List Bk) (m : List (Int × Int)) (o : Op) : Bool := decide (mget o.n m > 0) || o.t == 0 || (getB l o.t).1.t == 12 || changesB (getB l o.t).1
def sealsM (l : List Bk) : List (Int × Int) → List Op → Bool
 | _, [] => true
 | m, o :: r => if o.k != 2 then sealsM l m r else if badSeal l m o then false else sealsM l (bump o.n m) r
theorem sealsM_drop {l : List Bk} {q : List Op} {i : Nat} {y : Op} {m : List (Int × Int)} (h : q[i]? = some y) : sealsM l m (q.drop i) = if y.k != 2 then sealsM l m (q.drop (i + 1)) else if badSeal l m y then false else sealsM l (bump y.n m) (q.drop (i + 1)) := by
 rw [drop_some h, sealsM]
theorem sealsM_eq (l : List Bk) : ∀ (r pre : List Op) (m : List (Int × Int)), (∀ n, mget n m = if pre.any (fun q => q.k == 2 && q.n == n) then 1 else 0) → sealsM l m r = sealsG l pre r
 | [], _, _, _ => rfl
 | o :: r, pre, m, h => by
  rw [sealsM, sealsG]
  by_cases hk : (o.k != 2) = true
  ·
   rw [if_pos hk, if_pos hk]
   refine sealsM_eq l r (pre ++ [o]) m fun n => ?_
   rw [h n, List.any_append]
   have : (o.k == 2) = false := by simpa using hk
   simp [this]
  ·
   rw [if_neg hk, if_neg hk]
   have hg : decide (mget o.n m > 0) = pre.any (fun q => q.k == 2 && q.n == o.n) := by
    rw [h o.n]
    cases pre.any (fun q => q.k == 2 && q.n == o.n) <;> rfl
   unfold badSeal
   rw [hg]
   split
   · rfl
   ·
    next hb =>
    refine sealsM_eq l r (pre ++ [o]) _ fun n => ?_
    have ha : pre.any (fun q => q.k == 2 && q.n == o.n) = false := by
     cases hx : pre.any (fun q => q.k == 2 && q.n == o.n) with
     | false => rfl
     | true => rw [hx] at hb; simp at hb
    have h0 : mget o.n m = 0 := by rw [h o.n, ha]; rfl
    have hk2 : (o.k == 2) = true := by simpa using hk
    unfold bump
    rw [mget_put, h0, List.any_append, h n]
    by_cases hn : n = o.n
    ·
     subst hn
     simp [ha, hk2]
     rfl
    ·
     have h1 : (n == o.n) = false := beq_eq_false_iff_ne.2 hn
     have h2 : (o.n == n) = false := beq_eq_false_iff_ne.2 (fun e => hn e.symm)
     simp [h1, h2]
set_option maxHeartbeats 16000000 in
theorem seals_any (p : Pr) (l : List Bk) (a : Option Addr) (c : Nat) (q : List Op) (aQ : Option Addr) (cQ : Nat) (w : World) {U : View} (hU : ∀ a v, U a = some v → w.cell? a = some v) (hl : BksAt U a l) (hq : LsAt OpR 3 U aQ q) : Calls Tryz.prog 130 #[bnV p a l.length c, .slice aQ q.length cQ] w (Ret (.bool (sealsG l [] q)) w) := by
 have hlen := hq.len
 unfold R47 at hlen
 rw [← sealsM_eq l q [] [] (fun n => rfl)]
 refine sx_enter (f := 130) 52 U Tryz.func130 rfl rfl rfl hU ?_
 refine zs (zr (sx_N (fun b0 => (zq 1 (zn (zs (zr (sx_N (fun b1 => (zq 1 (zn (zs (zQ 3 (zn (sx_block ?_)))))))))))))))
 refine sx_loop (α := Nat × List (Int × Int)) (fun x => [2,4,5,11,12,13].zip [(Pt b0 0),(.bool false),(.map (some b1)),(.slice aQ q.length cQ),(L6 q.length),(L6 x.1)]) (fun x => U) (fun x => [(bK b0 (bnCs p a l.length c) 29),(b1,(mO intKey x.2))]) (fun x => x.1 ≤ q.length ∧ sealsM l x.2 (q.drop x.1) = sealsM l [] q) (fun x => q.length - x.1) (0,[]) ?_ (look_zip _ _ (by kernel_rfl)) (fun _ h => h.eqv (by kernel_rfl)) ?_
 · exact ⟨Nat.zero_le _,rfl⟩
 intro x hx
 obtain ⟨hx1,hx2⟩ := hx
 refine zQ 1 (zn (zs (sx_D (decide (((x.1 : Nat) : Int) < (((q.length : Nat)) : Int))) (fun h0 => ?_) (fun h0 => ?_))))
 ·
  have h0d := of_decide_eq_true h0
  refine zk (zs (sx_block (zs (zr ?_))))
  obtain ⟨y2,hy2⟩ : ∃ y,(q)[x.1]? = some y := ⟨(q)[x.1]'(by omega),List.getElem?_eq_getElem _⟩
  obtain ⟨b2,f2,cs2,rfl,hU2,hR2⟩ := hq.at_ x.1 y2 hy2
  obtain rfl := hR2
  refine sx_R (Pt b2 (f2 + x.1 * 3)) (rIx 153 rfl b2 f2 q.length cQ x.1 3) ?_
  refine zU b2 (f2 + x.1 * 3) [(I6 y2.k),(I6 y2.n),(I6 y2.t)] hU2 153 (.tmp 15) _ Tryz.underlying153 rfl ?_
  refine sx_N (fun b3 => (sx_S 2 b3 (zn (zs (zB [0,3,0] [(b3,1)] (zn (sx_D (y2.k != 2) (fun h1 => ?_) (fun h1 => ?_))))))))
  ·
   have h1d := bne_iff_ne.1 h1
   refine sx_exit (zr (zq 1 (sx_E 51 (I6 (IntKind.i64.wrap (((x.1 : Nat) : Int) + 1))) (I6 (((x.1 : Nat) : Int) + 1)) i6v ?_)))
   refine zq 1 (zn ?_)
   refine ⟨(x.1 + 1,x.2),?_,?_,look_zip _ _ (by kernel_rfl),fun _ h => Mem.sub (List.sublist_append_left _ _) (h.eqv (show _ = ([(bK b0 (bnCs p a l.length c) 29),(b1,(mO intKey x.2))] : Blks) ++ ([(bK b3 [(I6 y2.k),(I6 y2.n),(I6 y2.t)] 153)] : Blks) from by kernel_rfl))⟩
   · exact ⟨by show x.1 + 1 ≤ _; omega,by show sealsM l x.2 (q.drop (x.1 + 1)) = _; rw [← hx2,sealsM_drop hy2,if_pos h1]⟩
   · show q.length - (x.1 + 1) < q.length - x.1; omega
  ·
   have h1d := bne_eq_false_iff_eq.1 h1
   refine zk (zB [1,0,3] [(b0,20),(b3,1)] (sx_C 64 #[(bnV p a l.length c),(I6 y2.t)] (.tuple #[(.agg #[(I6 (getB l y2.t).1.t),(I6 (getB l y2.t).1.n),(N6 (getB l y2.t).1.f),(I6 (getB l y2.t).1.c),(St (getB l y2.t).1.d)]),(.bool (getB l y2.t).2)]) (fun W hM => bGet_any p l _ _ y2.t W hM.view hl) ?_))
   refine zq 3 (sx_N (fun b4 => (sx_S 3 b4 (zq 1 (zn (zs (zB [0,0,3] [(b3,1)] ?_)))))))
   refine sx_mget mapII 1 b1 x.2 y2.n (.tmp 27) (.tmp 29) rfl (by kernel_rfl) (by kernel_rfl) (by kernel_rfl) (by kernel_rfl) (by kernel_rfl) ?_
   refine zq 2 (sx_BL 32 (decide ((mget y2.n x.2) > 0)) (fun h2 => ?_) (fun h2 => ?_))
   ·
    have h2d := of_decide_eq_true h2
    refine zq 13 (zn (sx_T (zQ 1 (zn (sx_ret (sx_Z [4] [(.bool false)] (fun W' hM => ?_)))))))
    refine ⟨?_,hM.below⟩
    rw [← hx2,sealsM_drop hy2,if_neg (by rw [h1]; exact Bool.false_ne_true),if_pos (by unfold badSeal; simp [h1d,h2])]
    rfl
   ·
    have h2d := of_decide_eq_false h2
    refine sx_B [0,3,0,0,0] [(b3,1)] (sx_BL 37 (y2.t == 0) (fun h3 => ?_) (fun h3 => ?_))
    ·
     have h3d := eq_of_beq h3
     refine zq 8 (zn (sx_T (zQ 1 (zn (sx_ret (sx_Z [4] [(.bool false)] (fun W' hM => ?_)))))))
     refine ⟨?_,hM.below⟩
     rw [← hx2,sealsM_drop hy2,if_neg (by rw [h1]; exact Bool.false_ne_true),if_pos (by unfold badSeal; simp [h1d,h2,h3d])]
     rfl
    ·
     have h3d := beq_eq_false_iff_ne.1 h3
     refine sx_B [0,4,0,0,0] [(b4,1)] (sx_BL 42 ((getB l y2.t).1.t == 12) (fun h4 => ?_) (fun h4 => ?_))
     ·
      have h4d := eq_of_beq h4
      refine zq 3 (zn (sx_T (zQ 1 (zn (sx_ret (sx_Z [4] [(.bool false)] (fun W' hM => ?_)))))))
      refine ⟨?_,hM.below⟩
      rw [← hx2,sealsM_drop hy2,if_neg (by rw [h1]; exact Bool.false_ne_true),if_pos (by unfold badSeal; simp [h1d,h2,h3d,h4d])]
      rfl
     ·
      have h4d := beq_eq_false_iff_ne.1 h4
      refine sx_B [4] [(b4,5)] (sx_C 168 #[(.agg #[(I6 (getB l y2.t).1.t),(I6 (getB l y2.t).1.n),(N6 (getB l y2.t).1.f),(I6 (getB l y2.t).1.c),(St (getB l y2.t).1.d)])] (.bool (changesB (getB l y2.t).1)) (fun W hM => changes_any (getB l y2.t).1 W) ?_)
      refine zq 1 (zn (sx_D (changesB (getB l y2.t).1) (fun h5 => ?_) (fun h5 => ?_)))
      ·
       refine zQ 1 (zn (sx_ret (sx_Z [4] [(.bool false)] (fun W' hM => ?_))))
       refine ⟨?_,hM.below⟩
       rw [← hx2,sealsM_drop hy2,if_neg (by rw [h1]; exact Bool.false_ne_true),if_pos (by unfold badSeal; simp [h1d,h2,h3d,h4d,h5])]
       rfl
      ·
       refine zk (zr (sx_B [0,0,3] [(b3,1)] ?_))
       refine sx_mget mapII 1 b1 x.2 y2.n (.tmp 46) (.tmp 48) rfl (by kernel_rfl) (by kernel_rfl) (by kernel_rfl) (by kernel_rfl) (by kernel_rfl) ?_
       refine zq 1 ?_
       refine sx_mput mapII 1 b1 x.2 y2.n (IntKind.i64.wrap ((mget y2.n x.2) + 1)) (.tmp 46) (.tmp 48) (.tmp 50) rfl (by kernel_rfl) (by kernel_rfl) (by kernel_rfl) (by kernel_rfl) (by kernel_rfl) (by kernel_rfl) ?_
       refine zn (zr (zq 1 (sx_E 51 (I6 (IntKind.i64.wrap (((x.1 : Nat) : Int) + 1))) (I6 (((x.1 : Nat) : Int) + 1)) i6v ?_)))
       refine zq 1 (zn ?_)
       refine ⟨(x.1 + 1,(mput y2.n (IntKind.i64.wrap ((mget y2.n x.2) + 1)) x.2)),?_,?_,look_zip _ _ (by kernel_rfl),fun _ h => Mem.sub (List.sublist_append_left _ _) (h.eqv (show _ = ([(bK b0 (bnCs p a l.length c) 29),(b1,(mO intKey (mput y2.n (IntKind.i64.wrap ((mget y2.n x.2) + 1)) x.2)))] : Blks) ++ ([(bK b3 [(I6 y2.k),(I6 y2.n),(I6 y2.t)] 153),(bK b4 [(I6 (getB l y2.t).1.t),(I6 (getB l y2.t).1.n),(N6 (getB l y2.t).1.f),(I6 (getB l y2.t).1.c),(St (getB l y2.t).1.d)] 38)] : Blks) from by kernel_rfl))⟩
       · exact ⟨by show x.1 + 1 ≤ _; omega,by rw [← hx2,sealsM_drop hy2,if_neg (by rw [h1]; exact Bool.false_ne_true)]; rw [if_neg (by unfold badSeal; simp [h1d,h2,h3d,h4d,h5])]; rfl⟩
       · show q.length - (x.1 + 1) < q.length - x.1; omega
 ·
  have h0d := of_decide_eq_false h0
  refine sx_exit (zQ 1 (zn (sx_ret (sx_Z [4] [(.bool true)] (fun W' hM => ?_)))))
  refine ⟨?_,hM.below⟩
  rw [← hx2,drop_all (by omega)]
  rfl
theorem twiceG_drop {l : List Int} {i : Nat} {y : Int} (h : l[i]? = some y) : twiceG (l.take i) (l.drop i) = if (l.take i).contains y then true else twiceG (l.take (i + 1)) (l.drop (i + 1)) := by
 rw [drop_some h, twiceG, List.take_add_one, h]
 rfl
set_option maxHeartbeats 16000000 in
theorem listed_any (p : Pr) (l : List Bk) (a : Option Addr) (c : Nat) (kind : Int) (ts : List Int) (aS : Option Addr) (cS : Nat) (w : World) {U : View} (hU : ∀ a v, U a = some v → w.cell? a = some v) (hl : BksAt U a l) (ht : InsAt U aS ts) (hc : ts.length ≤ cS) : Calls Tryz.prog 81 #[bnV p a l.length c, .int .i64 kind, .slice aS ts.length cS] w (Ret (.int .i64 (listedZ l kind ts)) w) := by
 have hlen := ht.len
 unfold R47 at hlen
 have e0 : (ts.length == 0) = (((ts.length : Nat) : Int) == 0) := by
  cases hz : ts.length == 0 with
  | true => rw [eq_of_beq hz]; rfl
  | false => exact (beq_eq_false_iff_ne.2 (by have := beq_eq_false_iff_ne.1 hz; omega)).symm
 refine sx_enter (f := 81) 56 U Tryz.func81 rfl rfl rfl hU ?_
 refine zs (zr (sx_N (fun b0 => (zq 1 (zn (zs (zQ 3 (sx_BL 15 (kind != 1) (fun h0 => ?_) (fun h0 => ?_)))))))))
 ·
  have h0d := bne_iff_ne.1 h0
  refine zq 4 (sx_BL 19 (kind != 2) (fun h1 => ?_) (fun h1 => ?_))
  ·
   refine zq 4 (zn (sx_T (zQ 1 (zn (sx_ret (sx_Z [6] [(I6 1)] (fun W' hM => ?_)))))))
   refine ⟨?_,hM.below⟩
   unfold listedZ
   rw [e0]
   simp only [h0,h1,bs,if_true,if_false,cond_true,cond_false,reduceIte]
   rfl
  ·
   have h1d := bne_eq_false_iff_eq.1 h1
   refine zq 4 (zn (sx_D ((((ts.length : Nat)) : Int) == 0) (fun h2 => ?_) (fun h2 => ?_)))
   ·
    refine zQ 1 (zn (sx_ret (sx_Z [6] [(I6 1)] (fun W' hM => ?_))))
    refine ⟨?_,hM.below⟩
    unfold listedZ
    rw [e0]
    simp only [h0,h1,h2,bs,if_true,if_false,cond_true,cond_false,reduceIte]
    rfl
   ·
    have h2d := beq_eq_false_iff_ne.1 h2
    refine zk (zs (zQ 3 (zn (sx_block ?_))))
    refine sx_loop (α := Nat) (fun x => [2,3,6,24,25,26].zip [(.slice aS ts.length cS),(Pt b0 0),(I6 0),(.slice aS ts.length cS),(L6 ts.length),(L6 x)]) (fun x => U) (fun x => [(bK b0 (bnCs p a l.length c) 29)]) (fun x => x ≤ ts.length ∧ twiceG (ts.take x) (ts.drop x) = twiceG [] ts) (fun x => ts.length - x) 0 ?_ (look_zip _ _ (by kernel_rfl)) (fun _ h => h.eqv (by kernel_rfl)) ?_
    · exact ⟨Nat.zero_le _,rfl⟩
    intro x hx
    obtain ⟨hx1,hx2⟩ := hx
    refine zQ 1 (zn (zs (sx_D (decide (((x : Nat) : Int) < (((ts.length : Nat)) : Int))) (fun h3 => ?_) (fun h3 => ?_))))
    ·
     have h3d := of_decide_eq_true h3
     refine zk (zs (sx_block (zQ 1 ?_)))
     obtain ⟨y1,hy1⟩ : ∃ y,(ts)[x]? = some y := ⟨(ts)[x]'(by omega),List.getElem?_eq_getElem _⟩
     obtain ⟨b1,f1,rfl,hU1⟩ := ht.one hy1
     refine sx_R (Pt b1 (f1 + x)) (run_ix1 _ 3 _ _ rfl b1 f1 ts.length cS x .i64 (by kernel_rfl) (by kernel_rfl) (by first | assumption | omega) (by kernel_rfl) (by kernel_rfl)) ?_
     refine zV b1 (f1 + x) (I6 y1) hU1 3 (.tmp 29) _ Tryz.underlying3 rfl ?_
     refine zq 2 (zn (zQ 2 (sx_R (Sl b1 f1 x cS) (run_sl 48 3 (.tmp 31) none (some (.tmp 32)) none rfl b1 f1 ts.length cS 0 x cS 1 x cS f1 (by kernel_rfl) (show _ = _ by kernel_rfl) (show _ = _ by kernel_rfl) (show _ = _ by kernel_rfl) (by decide) (by omega) (by omega) (by omega) (by omega) (by omega) (by first | rfl | (split <;> omega)) Tryz.underlying48 (by kernel_rfl)) ?_)))
     refine zq 1 (sx_C 121 #[(Sl b1 f1 x cS),(I6 y1)] (.bool ((ts.take x).contains y1)) (fun W hM => (by have h := contains_any (ts.take x) _ cS y1 W hM.view (ht.take x); rwa [List.length_take,Nat.min_eq_left (by omega)] at h)) ?_)
     refine zn (sx_D ((ts.take x).contains y1) (fun h4 => ?_) (fun h4 => ?_))
     ·
      refine zQ 1 (zn (sx_ret (sx_Z [6] [(I6 1)] (fun W' hM => ?_))))
      refine ⟨?_,hM.below⟩
      unfold listedZ
      rw [e0]
      rw [if_neg (by simp only [h0,h1,h2,bs,if_true,if_false,cond_true,cond_false,reduceIte]; exact not_false),if_pos (by rw [← hx2,twiceG_drop hy1,if_pos h4])]
      rfl
     ·
      refine zk (zr (zq 1 (sx_E 36 (I6 (IntKind.i64.wrap (((x : Nat) : Int) + 1))) (I6 (((x : Nat) : Int) + 1)) i6v ?_)))
      refine zq 1 (zn ?_)
      refine ⟨(x + 1),?_,?_,look_zip _ _ (by kernel_rfl),fun _ h => h.eqv (by kernel_rfl)⟩
      · exact ⟨by omega,by rw [← hx2,twiceG_drop hy1,if_neg (by rw [h4]; exact Bool.false_ne_true)]⟩
      · show ts.length - (x + 1) < ts.length - x; omega
    ·
     have h3d := of_decide_eq_false h3
     refine sx_exit (zs (zs (zr ?_)))
     have htw : twiceG [] ts = false := by rw [← hx2,drop_all (by omega)]; rfl
     refine zq 3 (zn (sx_block ?_))
     refine sx_loop (α := Nat) (fun x2 => [3,6,37,38,39].zip [(Pt b0 0),(I6 0),(.slice aS ts.length cS),(L6 ts.length),(L6 x2)]) (fun x2 => U) (fun x2 => [(bK b0 (bnCs p a l.length c) 29)]) (fun x2 => x2 ≤ ts.length ∧ (ts.drop x2).all (fun t => (getB l t).2 || t == 0) = ts.all (fun t => (getB l t).2 || t == 0)) (fun x2 => ts.length - x2) 0 ?_ (look_zip _ _ (by kernel_rfl)) (fun _ h => h.eqv (by kernel_rfl)) ?_
     · exact ⟨Nat.zero_le _,rfl⟩
     intro x2 hx2
     obtain ⟨hww1,hww2⟩ := hx2
     refine zQ 1 (zn (zs (sx_D (decide (((x2 : Nat) : Int) < (((ts.length : Nat)) : Int))) (fun h5 => ?_) (fun h5 => ?_))))
     ·
      have h5d := of_decide_eq_true h5
      refine zk (zs (sx_block (zs (zr ?_))))
      obtain ⟨y2,hy2⟩ : ∃ y,(ts)[x2]? = some y := ⟨(ts)[x2]'(by omega),List.getElem?_eq_getElem _⟩
      obtain ⟨b2,f2,rfl,hU2⟩ := ht.one hy2
      refine sx_R (Pt b2 (f2 + x2)) (run_ix1 _ 3 _ _ rfl b2 f2 ts.length cS x2 .i64 (by kernel_rfl) (by kernel_rfl) (by first | assumption | omega) (by kernel_rfl) (by kernel_rfl)) ?_
      refine zV b2 (f2 + x2) (I6 y2) hU2 3 (.tmp 41) _ Tryz.underlying3 rfl ?_
      refine zq 1 (zn (zB [1,0] [(b0,20)] (sx_C 64 #[(bnV p a l.length c),(I6 y2)] (.tuple #[(.agg #[(I6 (getB l y2).1.t),(I6 (getB l y2).1.n),(N6 (getB l y2).1.f),(I6 (getB l y2).1.c),(St (getB l y2).1.d)]),(.bool (getB l y2).2)]) (fun W hM => bGet_any p l _ _ y2 W hM.view hl) ?_)))
      refine zq 3 (sx_N (fun b3 => (sx_S 1 b3 (zq 1 (zn (zQ 3 (sx_BL 51 (!(getB l y2).2) (fun h6 => ?_) (fun h6 => ?_))))))))
      ·
       refine zq 3 (zn (sx_D (y2 != 0) (fun h7 => ?_) (fun h7 => ?_)))
       ·
        have h7d := bne_iff_ne.1 h7
        refine zQ 1 (zn (sx_ret (sx_Z [6] [(I6 15)] (fun W' hM => ?_))))
        refine ⟨?_,hM.below⟩
        unfold listedZ
        rw [e0]
        rw [if_neg (by simp only [h0,h1,h2,bs,if_true,if_false,cond_true,cond_false,reduceIte]; exact not_false),if_neg (by rw [htw]; exact Bool.false_ne_true),if_neg (by rw [← hww2,drop_some hy2,List.all_cons]; simp only [Bool.not_eq_true',Bool.not_eq_false'] at h6; simp [h6,h7d])]
        rfl
       ·
        have h7d := bne_eq_false_iff_eq.1 h7
        refine zk (zr (zq 1 (sx_E 55 (I6 (IntKind.i64.wrap (((x2 : Nat) : Int) + 1))) (I6 (((x2 : Nat) : Int) + 1)) i6v ?_)))
        refine zq 1 (zn ?_)
        refine ⟨(x2 + 1),?_,?_,look_zip _ _ (by kernel_rfl),fun _ h => Mem.sub (List.sublist_append_left _ _) (h.eqv (show _ = ([(bK b0 (bnCs p a l.length c) 29)] : Blks) ++ ([(bK b3 [(I6 (getB l y2).1.t),(I6 (getB l y2).1.n),(N6 (getB l y2).1.f),(I6 (getB l y2).1.c),(St (getB l y2).1.d)] 38)] : Blks) from by kernel_rfl))⟩
        · exact ⟨by omega,by simp only [Bool.not_eq_true',Bool.not_eq_false'] at h6; rw [← hww2,drop_some hy2,List.all_cons]; simp [h6,h7d]⟩
        · show ts.length - (x2 + 1) < ts.length - x2; omega
      ·
       refine zq 3 (zn (sx_F (zk (zr (zq 1 (sx_E 55 (I6 (IntKind.i64.wrap (((x2 : Nat) : Int) + 1))) (I6 (((x2 : Nat) : Int) + 1)) i6v ?_))))))
       refine zq 1 (zn ?_)
       refine ⟨(x2 + 1),?_,?_,look_zip _ _ (by kernel_rfl),fun _ h => Mem.sub (List.sublist_append_left _ _) (h.eqv (show _ = ([(bK b0 (bnCs p a l.length c) 29)] : Blks) ++ ([(bK b3 [(I6 (getB l y2).1.t),(I6 (getB l y2).1.n),(N6 (getB l y2).1.f),(I6 (getB l y2).1.c),(St (getB l y2).1.d)] 38)] : Blks) from by kernel_rfl))⟩
       · exact ⟨by omega,by simp only [Bool.not_eq_true',Bool.not_eq_false'] at h6; rw [← hww2,drop_some hy2,List.all_cons]; simp [h6]⟩
       · show ts.length - (x2 + 1) < ts.length - x2; omega
     ·
      have h5d := of_decide_eq_false h5
      refine sx_exit (zQ 1 (zn (sx_ret (sx_Z [6] [(I6 0)] (fun W' hM => ?_)))))
      refine ⟨?_,hM.below⟩
      unfold listedZ
      rw [e0]
      rw [if_neg (by simp only [h0,h1,h2,bs,if_true,if_false,cond_true,cond_false,reduceIte]; exact not_false),if_neg (by rw [htw]; exact Bool.false_ne_true),if_pos (by rw [← hww2,drop_all (by omega)]; rfl)]
      rfl
 ·
  have h0d := bne_eq_false_iff_eq.1 h0
  refine zq 8 (zn (sx_D ((((ts.length : Nat)) : Int) == 0) (fun h8 => ?_) (fun h8 => ?_)))
  ·
   refine zQ 1 (zn (sx_ret (sx_Z [6] [(I6 1)] (fun W' hM => ?_))))
   refine ⟨?_,hM.below⟩
   unfold listedZ
   rw [e0]
   simp only [h0,h8,bs,if_true,if_false,cond_true,cond_false,reduceIte]
   rfl
  ·
   have h8d := beq_eq_false_iff_ne.1 h8
   refine zk (zs (zQ 3 (zn (sx_block ?_))))
   refine sx_loop (α := Nat) (fun x => [2,3,6,24,25,26].zip [(.slice aS ts.length cS),(Pt b0 0),(I6 0),(.slice aS ts.length cS),(L6 ts.length),(L6 x)]) (fun x => U) (fun x => [(bK b0 (bnCs p a l.length c) 29)]) (fun x => x ≤ ts.length ∧ twiceG (ts.take x) (ts.drop x) = twiceG [] ts) (fun x => ts.length - x) 0 ?_ (look_zip _ _ (by kernel_rfl)) (fun _ h => h.eqv (by kernel_rfl)) ?_
   · exact ⟨Nat.zero_le _,rfl⟩
   intro x hx
   obtain ⟨hx1,hx2⟩ := hx
   refine zQ 1 (zn (zs (sx_D (decide (((x : Nat) : Int) < (((ts.length : Nat)) : Int))) (fun h9 => ?_) (fun h9 => ?_))))
   ·
    have h9d := of_decide_eq_true h9
    refine zk (zs (sx_block (zQ 1 ?_)))
    obtain ⟨y4,hy4⟩ : ∃ y,(ts)[x]? = some y := ⟨(ts)[x]'(by omega),List.getElem?_eq_getElem _⟩
    obtain ⟨b4,f4,rfl,hU4⟩ := ht.one hy4
    refine sx_R (Pt b4 (f4 + x)) (run_ix1 _ 3 _ _ rfl b4 f4 ts.length cS x .i64 (by kernel_rfl) (by kernel_rfl) (by first | assumption | omega) (by kernel_rfl) (by kernel_rfl)) ?_
    refine zV b4 (f4 + x) (I6 y4) hU4 3 (.tmp 29) _ Tryz.underlying3 rfl ?_
    refine zq 2 (zn (zQ 2 (sx_R (Sl b4 f4 x cS) (run_sl 48 3 (.tmp 31) none (some (.tmp 32)) none rfl b4 f4 ts.length cS 0 x cS 1 x cS f4 (by kernel_rfl) (show _ = _ by kernel_rfl) (show _ = _ by kernel_rfl) (show _ = _ by kernel_rfl) (by decide) (by omega) (by omega) (by omega) (by omega) (by omega) (by first | rfl | (split <;> omega)) Tryz.underlying48 (by kernel_rfl)) ?_)))
    refine zq 1 (sx_C 121 #[(Sl b4 f4 x cS),(I6 y4)] (.bool ((ts.take x).contains y4)) (fun W hM => (by have h := contains_any (ts.take x) _ cS y4 W hM.view (ht.take x); rwa [List.length_take,Nat.min_eq_left (by omega)] at h)) ?_)
    refine zn (sx_D ((ts.take x).contains y4) (fun h10 => ?_) (fun h10 => ?_))
    ·
     refine zQ 1 (zn (sx_ret (sx_Z [6] [(I6 1)] (fun W' hM => ?_))))
     refine ⟨?_,hM.below⟩
     unfold listedZ
     rw [e0]
     rw [if_neg (by simp only [h0,h8,bs,if_true,if_false,cond_true,cond_false,reduceIte]; exact not_false),if_pos (by rw [← hx2,twiceG_drop hy4,if_pos h10])]
     rfl
    ·
     refine zk (zr (zq 1 (sx_E 36 (I6 (IntKind.i64.wrap (((x : Nat) : Int) + 1))) (I6 (((x : Nat) : Int) + 1)) i6v ?_)))
     refine zq 1 (zn ?_)
     refine ⟨(x + 1),?_,?_,look_zip _ _ (by kernel_rfl),fun _ h => h.eqv (by kernel_rfl)⟩
     · exact ⟨by omega,by rw [← hx2,twiceG_drop hy4,if_neg (by rw [h10]; exact Bool.false_ne_true)]⟩
     · show ts.length - (x + 1) < ts.length - x; omega
   ·
    have h9d := of_decide_eq_false h9
    refine sx_exit (zs (zs (zr ?_)))
    have htw : twiceG [] ts = false := by rw [← hx2,drop_all (by omega)]; rfl
    refine zq 3 (zn (sx_block ?_))
    refine sx_loop (α := Nat) (fun x2 => [3,6,37,38,39].zip [(Pt b0 0),(I6 0),(.slice aS ts.length cS),(L6 ts.length),(L6 x2)]) (fun x2 => U) (fun x2 => [(bK b0 (bnCs p a l.length c) 29)]) (fun x2 => x2 ≤ ts.length ∧ (ts.drop x2).all (fun t => (getB l t).2 || t == 0) = ts.all (fun t => (getB l t).2 || t == 0)) (fun x2 => ts.length - x2) 0 ?_ (look_zip _ _ (by kernel_rfl)) (fun _ h => h.eqv (by kernel_rfl)) ?_
    · exact ⟨Nat.zero_le _,rfl⟩
    intro x2 hx2
    obtain ⟨hww1,hww2⟩ := hx2
    refine zQ 1 (zn (zs (sx_D (decide (((x2 : Nat) : Int) < (((ts.length : Nat)) : Int))) (fun h11 => ?_) (fun h11 => ?_))))
    ·
     have h11d := of_decide_eq_true h11
     refine zk (zs (sx_block (zs (zr ?_))))
     obtain ⟨y5,hy5⟩ : ∃ y,(ts)[x2]? = some y := ⟨(ts)[x2]'(by omega),List.getElem?_eq_getElem _⟩
     obtain ⟨b5,f5,rfl,hU5⟩ := ht.one hy5
     refine sx_R (Pt b5 (f5 + x2)) (run_ix1 _ 3 _ _ rfl b5 f5 ts.length cS x2 .i64 (by kernel_rfl) (by kernel_rfl) (by first | assumption | omega) (by kernel_rfl) (by kernel_rfl)) ?_
     refine zV b5 (f5 + x2) (I6 y5) hU5 3 (.tmp 41) _ Tryz.underlying3 rfl ?_
     refine zq 1 (zn (zB [1,0] [(b0,20)] (sx_C 64 #[(bnV p a l.length c),(I6 y5)] (.tuple #[(.agg #[(I6 (getB l y5).1.t),(I6 (getB l y5).1.n),(N6 (getB l y5).1.f),(I6 (getB l y5).1.c),(St (getB l y5).1.d)]),(.bool (getB l y5).2)]) (fun W hM => bGet_any p l _ _ y5 W hM.view hl) ?_)))
     refine zq 3 (sx_N (fun b6 => (sx_S 1 b6 (zq 1 (zn (zQ 3 (sx_BL 51 (!(getB l y5).2) (fun h12 => ?_) (fun h12 => ?_))))))))
     ·
      refine zq 3 (zn (sx_D (y5 != 0) (fun h13 => ?_) (fun h13 => ?_)))
      ·
       have h13d := bne_iff_ne.1 h13
       refine zQ 1 (zn (sx_ret (sx_Z [6] [(I6 15)] (fun W' hM => ?_))))
       refine ⟨?_,hM.below⟩
       unfold listedZ
       rw [e0]
       rw [if_neg (by simp only [h0,h8,bs,if_true,if_false,cond_true,cond_false,reduceIte]; exact not_false),if_neg (by rw [htw]; exact Bool.false_ne_true),if_neg (by rw [← hww2,drop_some hy5,List.all_cons]; simp only [Bool.not_eq_true',Bool.not_eq_false'] at h12; simp [h12,h13d])]
       rfl
      ·
       have h13d := bne_eq_false_iff_eq.1 h13
       refine zk (zr (zq 1 (sx_E 55 (I6 (IntKind.i64.wrap (((x2 : Nat) : Int) + 1))) (I6 (((x2 : Nat) : Int) + 1)) i6v ?_)))
       refine zq 1 (zn ?_)
       refine ⟨(x2 + 1),?_,?_,look_zip _ _ (by kernel_rfl),fun _ h => Mem.sub (List.sublist_append_left _ _) (h.eqv (show _ = ([(bK b0 (bnCs p a l.length c) 29)] : Blks) ++ ([(bK b6 [(I6 (getB l y5).1.t),(I6 (getB l y5).1.n),(N6 (getB l y5).1.f),(I6 (getB l y5).1.c),(St (getB l y5).1.d)] 38)] : Blks) from by kernel_rfl))⟩
       · exact ⟨by omega,by simp only [Bool.not_eq_true',Bool.not_eq_false'] at h12; rw [← hww2,drop_some hy5,List.all_cons]; simp [h12,h13d]⟩
       · show ts.length - (x2 + 1) < ts.length - x2; omega
     ·
      refine zq 3 (zn (sx_F (zk (zr (zq 1 (sx_E 55 (I6 (IntKind.i64.wrap (((x2 : Nat) : Int) + 1))) (I6 (((x2 : Nat) : Int) + 1)) i6v ?_))))))
      refine zq 1 (zn ?_)
      refine ⟨(x2 + 1),?_,?_,look_zip _ _ (by kernel_rfl),fun _ h => Mem.sub (List.sublist_append_left _ _) (h.eqv (show _ = ([(bK b0 (bnCs p a l.length c) 29)] : Blks) ++ ([(bK b6 [(I6 (getB l y5).1.t),(I6 (getB l y5).1.n),(N6 (getB l y5).1.f),(I6 (getB l y5).1.c),(St (getB l y5).1.d)] 38)] : Blks) from by kernel_rfl))⟩
      · exact ⟨by omega,by simp only [Bool.not_eq_true',Bool.not_eq_false'] at h12; rw [← hww2,drop_some hy5,List.all_cons]; simp [h12]⟩
      · show ts.length - (x2 + 1) < ts.length - x2; omega
    ·
     have h11d := of_decide_eq_false h11
     refine sx_exit (zQ 1 (zn (sx_ret (sx_Z [6] [(I6 0)] (fun W' hM => ?_)))))
     refine ⟨?_,hM.below⟩
     unfold listedZ
     rw [e0]
     rw [if_neg (by simp only [h0,h8,bs,if_true,if_false,cond_true,cond_false,reduceIte]; exact not_false),if_neg (by rw [htw]; exact Bool.false_ne_true),if_pos (by rw [← hww2,drop_all (by omega)]; rfl)]
     rfl
structure Go_ where
 i : Nat
 r : Rw
 xs : List Value
 m : Nat
 L : List (Op × List Value)
 V : View
def contO (pre : List Op) : Option (List Op) → Option (List Op)
 | none => none
 | some q => some (pre ++ q)
theorem contO_nil (o : Option (List Op)) : contO [] o = o := by cases o <;> rfl
theorem opsF_drop {typ kind ctx : Int} {out : Bk → Bool} {l : List Bk} {i : Nat} {y : Bk} (h : l[i]? = some y) : opsF typ kind ctx out (l.drop i) = if y.t != typ || out y then opsF typ kind ctx out (l.drop (i + 1)) else match parseS y.d with
  | none => none
  | some a => if a.c != ctx then none else match opsF typ kind ctx out (l.drop (i + 1)) with
   | none => none
   | some r => some (opsOf kind y.n a.t ++ r) := by
 rw [drop_some h, opsF]
 rfl
theorem opsF_skip {typ kind ctx : Int} {out : Bk → Bool} {l : List Bk} {i : Nat} {y : Bk} {pre : List Op} (h : l[i]? = some y) (hs : (y.t != typ || out y) = true) : contO pre (opsF typ kind ctx out (l.drop (i + 1))) = contO pre (opsF typ kind ctx out (l.drop i)) := by
 rw [opsF_drop h, if_pos hs]
theorem opsF_take {typ kind ctx : Int} {out : Bk → Bool} {l : List Bk} {i : Nat} {y : Bk} {pre : List Op} {a : As} (h : l[i]? = some y) (hs : (y.t != typ || out y) = false) (ha : parseS y.d = some a) (hc : (a.c != ctx) = false) : contO (pre ++ opsOf kind y.n a.t) (opsF typ kind ctx out (l.drop (i + 1))) = contO pre (opsF typ kind ctx out (l.drop i)) := by
 rw [opsF_drop h, if_neg (by rw [hs]; exact Bool.false_ne_true), ha]
 simp only
 rw [if_neg (by rw [hc]; exact Bool.false_ne_true)]
 cases opsF typ kind ctx out (l.drop (i + 1)) with
 | none => rfl
 | some r => simp only [contO, List.append_assoc]
theorem opsF_bad {typ kind ctx : Int} {out : Bk → Bool} {l : List Bk} {i : Nat} {y : Bk} (h : l[i]? = some y) (hs : (y.t != typ || out y) = false) (hb : parseS y.d = none ∨ ∃ a, parseS y.d = some a ∧ (a.c != ctx) = true) : opsF typ kind ctx out (l.drop i) = none := by
 rw [opsF_drop h, if_neg (by rw [hs]; exact Bool.false_ne_true)]
 rcases hb with hb | ⟨a, hb, hc⟩
 · rw [hb]
 ·
  rw [hb]
  simp only
  rw [if_pos hc]
theorem contO_none {pre : List Op} {o p : Option (List Op)} (h : contO pre o = p) (ho : o = none) : p = none := by rw [← h, ho]; rfl
theorem contO_done {pre : List Op} {p : Option (List Op)} (h : contO pre (some []) = p) : p = some pre := by rw [← h]; simp [contO]
theorem RwR.opAny {V V' : View} {r : Rw} {xs : List Value} {m : Nat} {L : List (Op × List Value)} (h : RwR OpR 3 V r xs m L) : RwR OpR 3 V' r xs m L := by
 have hA : ∀ {L : List (Op × List Value)}, AllR OpR V L → AllR OpR V' L := by
  intro L
  induction L with
  | nil => intro _; trivial
  | cons p r ih => intro ⟨h1, h2⟩; exact ⟨h1, ih h2⟩
 exact ⟨h.ok, h.xs, h.m, hA h.all⟩
def OpsIs (x : Option (List Op)) (v : Value) (σ : Blks) : Prop := match x with
 | some q => ∃ r xs L, v = .tuple #[Rw.V r q.length, .int .i64 0] ∧ σ = Rw.B r 153 xs ∧ RwR OpR 3 View.no r xs q.length L ∧ L.map Prod.fst = q
 | none => v = .tuple #[.slice none 0 0, .int .i64 2] ∧ σ = []
theorem retM_rowOut {W0 : Cx} {U V : View} {σ1 σF ρ : Blks} {Φ : Value → View → Blks → Prop} {v : Value} {W' : World} (hM : Mem W0 V ((σ1 ++ σF) ++ ρ) W') (hl : View.le U V) (h : Φ v V ρ) : RetM W0 U σF Φ (.returned v) W' := by
 refine ⟨v, V, ρ, rfl, hl, ?_, h⟩
 have h1 := hM.perm List.perm_append_comm
 exact h1.sub (List.Sublist.append (List.Sublist.refl _) (List.sublist_append_right _ _))
theorem retM_none {W0 : Cx} {U V : View} {σ1 σF ρ : Blks} {Φ : Value → View → Blks → Prop} {v : Value} {W' : World} (hM : Mem W0 V ((σ1 ++ σF) ++ ρ) W') (hl : View.le U V) (h : Φ v V []) : RetM W0 U σF Φ (.returned v) W' := by
 refine ⟨v, V, [], rfl, hl, ?_, h⟩
 have h1 : σF.Sublist ((σ1 ++ σF) ++ ρ) := (List.sublist_append_right σ1 σF).trans (List.sublist_append_left _ _)
 exact hM.sub h1
end Go.Proofs.YtcdjakemdlinhaaGreatDoor.Sx
