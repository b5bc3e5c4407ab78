/-
  Several texts in one: Ps5 Ps6 Asb9 Mix1 Mix2 Mxr Mix3.
  Conditions: named at each.
-/
import Derived.Test.YtcdjakemdlinhaaGreatDoorG08
set_option maxHeartbeats 16000000
set_option linter.unusedSimpArgs false
set_option linter.unusedVariables false
set_option linter.unusedSectionVars false
namespace Go.Proofs.YtcdjakemdlinhaaGreatDoor.Sx
open Go.ChangeShapes Go.WideShapes Go.ChangeAt Go.RowKit Go.Deep
theorem aB9 {p z : Nat} {ps : Ps} {o : Bool} {X : Option (List Itm.Tr × Nat)} {v : Value} {V : View} {σ : aF} (h : qQ p ⟨ps.b, ps.at_ + z, ps.e⟩ (pG o 0 X) v V σ) : qQ p ps (pG o z X) v V σ := by
 obtain ⟨t, cs, ps', e, ht, h1, h2, hx⟩ := h
 refine ⟨t, cs, ps', e, ht, h1, h2, ?_⟩
 cases X with
 | none => exact hx
 | some q =>
  obtain ⟨l, k⟩ := q
  simp only [pG] at hx ⊢
  exact ⟨hx.1, by omega, hx.2.2⟩
theorem aJc (ps : Ps) (p : Nat)  (d : Nat) (hp : ps.ok) (he : ps.e = 0) (hx : hdF ps.rest = none) {W0 : Cx} {U : View} {σF : aF} {W : World} (hM : Mem W0 U ([(p, ps.O)] ++ σF) W) : CP 181 #[.pointer (some ⟨p, 0, none⟩), .int .i64 (d : Int)] W (fN W0 U σF (qQ p ps (itF d ps.rest))) := by
 have hle := hp.le
 have hlen := hp.len
 unfold R47 at hlen
 have hrl : ps.rest.length = ps.b.length - ps.at_ := List.length_drop
 have hit : itF d ps.rest = none := by cases d <;> simp [itF,hx]
 have hM2 : Mem W0 U ([(bK p [(St ps.b),(I6 (ps.at_ : Int)),(I6 ps.e)] 245)] ++ σF) W := hM.eqv kR
 refine eC 118 Tryz.func181 hM2 ?_
 refine zs (zr (dN 1 (fun b0 => ?_)))
 refine zn (zQ 1 (dI 0 (fun W hM => dD ps p hp hM) (fun v1 V1 s1 hV1 hP1 => ?_)))
 obtain ⟨r1,rfl,rfl⟩ := hP1
 refine zq 1 (zn (zQ 1 (gF 0 (r1,(Rd.new ps.rest).O) 212 #[(Pt r1 0)] (pH r1 ps.rest (none)) (fun W hM => hx ▸ dQ ps.rest r1 (Ps.rest_len hp) hM) (fun v2 V2 s2 hV2 hP2 => ?_))))
 obtain ⟨rfl,rfl⟩ := hP2
 refine zq 7 (zn (zs (zQ 1 (dI 0 (x := (r1,(hdR ps.rest (none)).O)) (fun W hM => eZ (⟨ps.rest,0,0,2,0⟩ : Rd) r1 (hM.eqv kR)) (fun v3 V3 s3 hV3 hP3 => ?_)))))
 obtain ⟨rfl,rfl⟩ := hP3
 refine zq 5 (zn (zQ 2 (zn (dF (zB [0,0,0,0,2,0] [(p,1)] (dI 1 (x := (bK p [(St ps.b),(I6 (ps.at_ : Int)),(I6 ps.e)] 245)) (fun W hM => gG ps p ps.at_ 2 (hM.eqv kR)) (fun v4 V4 s4 hV4 hP4 => ?_)))))))
 obtain ⟨rfl,rfl⟩ := hP4
 refine aY 2 b0 (zn (aA (dU [3] [(b0,5)] [(.agg #[(I6 0),(U6 0),(St []),S0,(.bool false)])] (fun W' hM => ?_))))
 rw [hit]
 exact dP 0 3 _ hM (View.le_trans (View.le_trans (View.le_trans hV1 hV2) hV3) hV4) (iH (at_ := ps.at_) (e := 2) he (by decide))
theorem aCm (ps : Ps) (p : Nat) (d m n z : Nat) (o : Bool) (hp : ps.ok) (he : ps.e = 0) (hx : hdF ps.rest = some (m, n, o, z)) (h0 : m ≠ 0) (h2 : m ≠ 2) (h3 : m ≠ 3) (h4 : m ≠ 4) {W0 : Cx} {U : View} {σF : aF} {W : World} (hM : Mem W0 U ([(p, ps.O)] ++ σF) W) : CP 181 #[.pointer (some ⟨p, 0, none⟩), .int .i64 (d : Int)] W (fN W0 U σF (qQ p ps (itF d ps.rest))) := by
 have hle := hp.le
 have hlen := hp.len
 unfold R47 at hlen
 have hrl : ps.rest.length = ps.b.length - ps.at_ := List.length_drop
 have hm0 : ((m : Int) != 0) = true := bne_iff_ne.2 oW
 have hm2 : ((m : Int) != 2) = true := bne_iff_ne.2 oW
 have hm3 : ((m : Int) != 3) = true := bne_iff_ne.2 oW
 have hm4 : ((m : Int) != 4) = true := bne_iff_ne.2 oW
 have hit : itF d ps.rest = none := by
  cases d with
  | zero => rfl
  | succ d => rw [itF,hx]; simp only [h0,h2,h3,h4,if_false]
 have hM2 : Mem W0 U ([(bK p [(St ps.b),(I6 (ps.at_ : Int)),(I6 ps.e)] 245)] ++ σF) W := hM.eqv kR
 refine eC 118 Tryz.func181 hM2 ?_
 refine zs (zr (dN 1 (fun b0 => ?_)))
 refine zn (zQ 1 (dI 0 (fun W hM => dD ps p hp hM) (fun v1 V1 s1 hV1 hP1 => ?_)))
 obtain ⟨r1,rfl,rfl⟩ := hP1
 refine zq 1 (zn (zQ 1 (gF 0 (r1,(Rd.new ps.rest).O) 212 #[(Pt r1 0)] (pH r1 ps.rest (some (m,n,o,z))) (fun W hM => hx ▸ dQ ps.rest r1 (Ps.rest_len hp) hM) (fun v2 V2 s2 hV2 hP2 => ?_))))
 obtain ⟨rfl,rfl⟩ := hP2
 refine zq 7 (zn (zs (zQ 1 (dI 0 (x := (r1,(hdR ps.rest (some (m,n,o,z))).O)) (fun W hM => eZ (⟨ps.rest,z,-1,0,0⟩ : Rd) r1 (hM.eqv kR)) (fun v3 V3 s3 hV3 hP3 => ?_)))))
 obtain ⟨rfl,rfl⟩ := hP3
 refine zq 5 (zn (zQ 2 (zn (dE (zk (zs (aB (zQ 3 (eE 40 (.bool ((m : Int) != 0)) (.bool true) (congrArg Value.bool hm0) ?_)))))))))
 refine zq 4 (eE 44 (.bool ((m : Int) != 2)) (.bool true) (congrArg Value.bool hm2) ?_)
 refine zq 4 (eE 48 (.bool ((m : Int) != 3)) (.bool true) (congrArg Value.bool hm3) ?_)
 refine zq 4 (zn (gP ((m : Int) != 4) hm4 ?_))
 refine zB [0,0,0,0,2] [(p,1)] (dI 1 (x := (bK p [(St ps.b),(I6 (ps.at_ : Int)),(I6 ps.e)] 245)) (fun W hM => gG ps p ps.at_ 2 (hM.eqv kR)) (fun v4 V4 s4 hV4 hP4 => ?_))
 obtain ⟨rfl,rfl⟩ := hP4
 refine aY 2 b0 (zn (aA (dU [3] [(b0,5)] [(.agg #[(I6 0),(U6 0),(St []),S0,(.bool false)])] (fun W' hM => ?_))))
 rw [hit]
 exact dP 0 3 _ hM (View.le_trans (View.le_trans (View.le_trans hV1 hV2) hV3) hV4) (iH (at_ := ps.at_) (e := 2) he (by decide))
theorem aHl (ps : Ps) (p : Nat) (n z : Nat) (o : Bool) (hp : ps.ok) (he : ps.e = 0) (hx : hdF ps.rest = some (0, n, o, z)) {W0 : Cx} {U : View} {σF : aF} {W : World} (hM : Mem W0 U ([(p, ps.O)] ++ σF) W) : CP 181 #[.pointer (some ⟨p, 0, none⟩), .int .i64 ((0 : Nat) : Int)] W (fN W0 U σF (qQ p ps (itF 0 ps.rest))) := by
 have hle := hp.le
 have hlen := hp.len
 unfold R47 at hlen
 have hrl : ps.rest.length = ps.b.length - ps.at_ := List.length_drop
 have hit : itF 0 ps.rest = none := rfl
 have hM2 : Mem W0 U ([(bK p [(St ps.b),(I6 (ps.at_ : Int)),(I6 ps.e)] 245)] ++ σF) W := hM.eqv kR
 refine eC 118 Tryz.func181 hM2 ?_
 refine zs (zr (dN 1 (fun b0 => ?_)))
 refine zn (zQ 1 (dI 0 (fun W hM => dD ps p hp hM) (fun v1 V1 s1 hV1 hP1 => ?_)))
 obtain ⟨r1,rfl,rfl⟩ := hP1
 refine zq 1 (zn (zQ 1 (gF 0 (r1,(Rd.new ps.rest).O) 212 #[(Pt r1 0)] (pH r1 ps.rest (some (0,n,o,z))) (fun W hM => hx ▸ dQ ps.rest r1 (Ps.rest_len hp) hM) (fun v2 V2 s2 hV2 hP2 => ?_))))
 obtain ⟨rfl,rfl⟩ := hP2
 refine zq 7 (zn (zs (zQ 1 (dI 0 (x := (r1,(hdR ps.rest (some (0,n,o,z))).O)) (fun W hM => eZ (⟨ps.rest,z,-1,0,0⟩ : Rd) r1 (hM.eqv kR)) (fun v3 V3 s3 hV3 hP3 => ?_)))))
 obtain ⟨rfl,rfl⟩ := hP3
 refine zq 5 (zn (zQ 2 (zn (dE (zk (zs (aB (zQ 15 (zn (dE (zQ 3 (zn (gP (decide (((0 : Nat) : Int) < 1)) (by decide) ?_)))))))))))))
 refine zB [0,0,0,0,2] [(p,1)] (dI 1 (x := (bK p [(St ps.b),(I6 (ps.at_ : Int)),(I6 ps.e)] 245)) (fun W hM => gG ps p ps.at_ 3 (hM.eqv kR)) (fun v4 V4 s4 hV4 hP4 => ?_))
 obtain ⟨rfl,rfl⟩ := hP4
 refine aY 2 b0 (zn (aA (dU [3] [(b0,5)] [(.agg #[(I6 0),(U6 0),(St []),S0,(.bool false)])] (fun W' hM => ?_))))
 rw [hit]
 exact dP 0 3 _ hM (View.le_trans (View.le_trans (View.le_trans hV1 hV2) hV3) hV4) (iH (at_ := ps.at_) (e := 3) he (by decide))
theorem aHk (ps : Ps) (p : Nat) (n z : Nat) (o : Bool) (hp : ps.ok) (he : ps.e = 0) (hx : hdF ps.rest = some (2, n, o, z)) {W0 : Cx} {U : View} {σF : aF} {W : World} (hM : Mem W0 U ([(p, ps.O)] ++ σF) W) : CP 181 #[.pointer (some ⟨p, 0, none⟩), .int .i64 ((0 : Nat) : Int)] W (fN W0 U σF (qQ p ps (itF 0 ps.rest))) := by
 have hle := hp.le
 have hlen := hp.len
 unfold R47 at hlen
 have hrl : ps.rest.length = ps.b.length - ps.at_ := List.length_drop
 have hit : itF 0 ps.rest = none := rfl
 have hM2 : Mem W0 U ([(bK p [(St ps.b),(I6 (ps.at_ : Int)),(I6 ps.e)] 245)] ++ σF) W := hM.eqv kR
 refine eC 118 Tryz.func181 hM2 ?_
 refine zs (zr (dN 1 (fun b0 => ?_)))
 refine zn (zQ 1 (dI 0 (fun W hM => dD ps p hp hM) (fun v1 V1 s1 hV1 hP1 => ?_)))
 obtain ⟨r1,rfl,rfl⟩ := hP1
 refine zq 1 (zn (zQ 1 (gF 0 (r1,(Rd.new ps.rest).O) 212 #[(Pt r1 0)] (pH r1 ps.rest (some (2,n,o,z))) (fun W hM => hx ▸ dQ ps.rest r1 (Ps.rest_len hp) hM) (fun v2 V2 s2 hV2 hP2 => ?_))))
 obtain ⟨rfl,rfl⟩ := hP2
 refine zq 7 (zn (zs (zQ 1 (dI 0 (x := (r1,(hdR ps.rest (some (2,n,o,z))).O)) (fun W hM => eZ (⟨ps.rest,z,-1,0,0⟩ : Rd) r1 (hM.eqv kR)) (fun v3 V3 s3 hV3 hP3 => ?_)))))
 obtain ⟨rfl,rfl⟩ := hP3
 refine zq 5 (zn (zQ 2 (zn (dE (zk (zs (aB (zQ 15 (zn (dE (zQ 3 (zn (gP (decide (((0 : Nat) : Int) < 1)) (by decide) ?_)))))))))))))
 refine zB [0,0,0,0,2] [(p,1)] (dI 1 (x := (bK p [(St ps.b),(I6 (ps.at_ : Int)),(I6 ps.e)] 245)) (fun W hM => gG ps p ps.at_ 3 (hM.eqv kR)) (fun v4 V4 s4 hV4 hP4 => ?_))
 obtain ⟨rfl,rfl⟩ := hP4
 refine aY 2 b0 (zn (aA (dU [3] [(b0,5)] [(.agg #[(I6 0),(U6 0),(St []),S0,(.bool false)])] (fun W' hM => ?_))))
 rw [hit]
 exact dP 0 3 _ hM (View.le_trans (View.le_trans (View.le_trans hV1 hV2) hV3) hV4) (iH (at_ := ps.at_) (e := 3) he (by decide))
theorem aHj (ps : Ps) (p : Nat) (n z : Nat) (o : Bool) (hp : ps.ok) (he : ps.e = 0) (hx : hdF ps.rest = some (3, n, o, z)) {W0 : Cx} {U : View} {σF : aF} {W : World} (hM : Mem W0 U ([(p, ps.O)] ++ σF) W) : CP 181 #[.pointer (some ⟨p, 0, none⟩), .int .i64 ((0 : Nat) : Int)] W (fN W0 U σF (qQ p ps (itF 0 ps.rest))) := by
 have hle := hp.le
 have hlen := hp.len
 unfold R47 at hlen
 have hrl : ps.rest.length = ps.b.length - ps.at_ := List.length_drop
 have hit : itF 0 ps.rest = none := rfl
 have hM2 : Mem W0 U ([(bK p [(St ps.b),(I6 (ps.at_ : Int)),(I6 ps.e)] 245)] ++ σF) W := hM.eqv kR
 refine eC 118 Tryz.func181 hM2 ?_
 refine zs (zr (dN 1 (fun b0 => ?_)))
 refine zn (zQ 1 (dI 0 (fun W hM => dD ps p hp hM) (fun v1 V1 s1 hV1 hP1 => ?_)))
 obtain ⟨r1,rfl,rfl⟩ := hP1
 refine zq 1 (zn (zQ 1 (gF 0 (r1,(Rd.new ps.rest).O) 212 #[(Pt r1 0)] (pH r1 ps.rest (some (3,n,o,z))) (fun W hM => hx ▸ dQ ps.rest r1 (Ps.rest_len hp) hM) (fun v2 V2 s2 hV2 hP2 => ?_))))
 obtain ⟨rfl,rfl⟩ := hP2
 refine zq 7 (zn (zs (zQ 1 (dI 0 (x := (r1,(hdR ps.rest (some (3,n,o,z))).O)) (fun W hM => eZ (⟨ps.rest,z,-1,0,0⟩ : Rd) r1 (hM.eqv kR)) (fun v3 V3 s3 hV3 hP3 => ?_)))))
 obtain ⟨rfl,rfl⟩ := hP3
 refine zq 5 (zn (zQ 2 (zn (dE (zk (zs (aB (zQ 15 (zn (dE (zQ 3 (zn (gP (decide (((0 : Nat) : Int) < 1)) (by decide) ?_)))))))))))))
 refine zB [0,0,0,0,2] [(p,1)] (dI 1 (x := (bK p [(St ps.b),(I6 (ps.at_ : Int)),(I6 ps.e)] 245)) (fun W hM => gG ps p ps.at_ 3 (hM.eqv kR)) (fun v4 V4 s4 hV4 hP4 => ?_))
 obtain ⟨rfl,rfl⟩ := hP4
 refine aY 2 b0 (zn (aA (dU [3] [(b0,5)] [(.agg #[(I6 0),(U6 0),(St []),S0,(.bool false)])] (fun W' hM => ?_))))
 rw [hit]
 exact dP 0 3 _ hM (View.le_trans (View.le_trans (View.le_trans hV1 hV2) hV3) hV4) (iH (at_ := ps.at_) (e := 3) he (by decide))
theorem aHi (ps : Ps) (p : Nat) (n z : Nat) (o : Bool) (hp : ps.ok) (he : ps.e = 0) (hx : hdF ps.rest = some (4, n, o, z)) {W0 : Cx} {U : View} {σF : aF} {W : World} (hM : Mem W0 U ([(p, ps.O)] ++ σF) W) : CP 181 #[.pointer (some ⟨p, 0, none⟩), .int .i64 ((0 : Nat) : Int)] W (fN W0 U σF (qQ p ps (itF 0 ps.rest))) := by
 have hle := hp.le
 have hlen := hp.len
 unfold R47 at hlen
 have hrl : ps.rest.length = ps.b.length - ps.at_ := List.length_drop
 have hit : itF 0 ps.rest = none := rfl
 have hM2 : Mem W0 U ([(bK p [(St ps.b),(I6 (ps.at_ : Int)),(I6 ps.e)] 245)] ++ σF) W := hM.eqv kR
 refine eC 118 Tryz.func181 hM2 ?_
 refine zs (zr (dN 1 (fun b0 => ?_)))
 refine zn (zQ 1 (dI 0 (fun W hM => dD ps p hp hM) (fun v1 V1 s1 hV1 hP1 => ?_)))
 obtain ⟨r1,rfl,rfl⟩ := hP1
 refine zq 1 (zn (zQ 1 (gF 0 (r1,(Rd.new ps.rest).O) 212 #[(Pt r1 0)] (pH r1 ps.rest (some (4,n,o,z))) (fun W hM => hx ▸ dQ ps.rest r1 (Ps.rest_len hp) hM) (fun v2 V2 s2 hV2 hP2 => ?_))))
 obtain ⟨rfl,rfl⟩ := hP2
 refine zq 7 (zn (zs (zQ 1 (dI 0 (x := (r1,(hdR ps.rest (some (4,n,o,z))).O)) (fun W hM => eZ (⟨ps.rest,z,-1,0,0⟩ : Rd) r1 (hM.eqv kR)) (fun v3 V3 s3 hV3 hP3 => ?_)))))
 obtain ⟨rfl,rfl⟩ := hP3
 refine zq 5 (zn (zQ 2 (zn (dE (zk (zs (aB (zQ 15 (zn (dE (zQ 3 (zn (gP (decide (((0 : Nat) : Int) < 1)) (by decide) ?_)))))))))))))
 refine zB [0,0,0,0,2] [(p,1)] (dI 1 (x := (bK p [(St ps.b),(I6 (ps.at_ : Int)),(I6 ps.e)] 245)) (fun W hM => gG ps p ps.at_ 3 (hM.eqv kR)) (fun v4 V4 s4 hV4 hP4 => ?_))
 obtain ⟨rfl,rfl⟩ := hP4
 refine aY 2 b0 (zn (aA (dU [3] [(b0,5)] [(.agg #[(I6 0),(U6 0),(St []),S0,(.bool false)])] (fun W' hM => ?_))))
 rw [hit]
 exact dP 0 3 _ hM (View.le_trans (View.le_trans (View.le_trans hV1 hV2) hV3) hV4) (iH (at_ := ps.at_) (e := 3) he (by decide))
theorem aLf (ps : Ps) (p : Nat) (d n z : Nat) (o : Bool) (hp : ps.ok) (he : ps.e = 0) (hx : hdF ps.rest = some (0, n, o, z)) {W0 : Cx} {U : View} {σF : aF} {W : World} (hM : Mem W0 U ([(p, ps.O)] ++ σF) W) : CP 181 #[.pointer (some ⟨p, 0, none⟩), .int .i64 ((d + 1 : Nat) : Int)] W (fN W0 U σF (qQ p ps (itF (d + 1) ps.rest))) := by
 have hle := hp.le
 have hlen := hp.len
 unfold R47 at hlen
 have hrl : ps.rest.length = ps.b.length - ps.at_ := List.length_drop
 have hd1 : decide (((d + 1 : Nat) : Int) < 1) = false := decide_eq_false oW
 have hz := iT hx
 have hnl := (aNw hx).1
 have hit : itF (d + 1) ps.rest = some (.mk 0 n [] [] false,z) := by rw [itF,hx]; rfl
 have hM2 : Mem W0 U ([(bK p [(St ps.b),(I6 (ps.at_ : Int)),(I6 ps.e)] 245)] ++ σF) W := hM.eqv kR
 refine eC 118 Tryz.func181 hM2 ?_
 refine zs (zr (dN 1 (fun b0 => ?_)))
 refine zn (zQ 1 (dI 0 (fun W hM => dD ps p hp hM) (fun v1 V1 s1 hV1 hP1 => ?_)))
 obtain ⟨r1,rfl,rfl⟩ := hP1
 refine zq 1 (zn (zQ 1 (gF 0 (r1,(Rd.new ps.rest).O) 212 #[(Pt r1 0)] (pH r1 ps.rest (some (0,n,o,z))) (fun W hM => hx ▸ dQ ps.rest r1 (Ps.rest_len hp) hM) (fun v2 V2 s2 hV2 hP2 => ?_))))
 obtain ⟨rfl,rfl⟩ := hP2
 refine zq 7 (zn (zs (zQ 1 (dI 0 (x := (r1,(hdR ps.rest (some (0,n,o,z))).O)) (fun W hM => eZ (⟨ps.rest,z,-1,0,0⟩ : Rd) r1 (hM.eqv kR)) (fun v3 V3 s3 hV3 hP3 => ?_)))))
 obtain ⟨rfl,rfl⟩ := hP3
 refine zq 5 (zn (zQ 2 (zn (dE (zk (zs (aB (zQ 15 (zn (dE (zQ 3 (zn (eS (decide (((d + 1 : Nat) : Int) < 1)) hd1 ?_)))))))))))))
 refine zQ 3 (zn (dF (zs ?_)))
 refine gU 3 [0,0,0,4,0,1] [(p,1)] [.val (I6 (z : Int))] ⟨?_,trivial⟩ ?_
 · exact vC 214 #[(Pt r1 0)] (fun W hM => aNk (⟨ps.rest,z,-1,0,0⟩ : Rd) r1 0 hM kR)
 refine zq 1 (eV 76 ((ps.at_ : Int) + (z : Int)) (zq 2 (aY 1 p (zn (zQ 1 (dA 40 #[(N6 n)] (iV n) (fun W hM => dM _ W) ?_))))))
 refine aY 2 b0 (zn (aA (dU [3] [(b0,5)] [(iV n)] (fun W' hM => ?_))))
 rw [hit]
 exact dP 1 3 _ hM (View.le_trans (View.le_trans hV1 hV2) hV3) ⟨_,_,⟨ps.b,ps.at_ + z,ps.e⟩,rfl,TV.num _ n (by unfold W64; omega),rfl,rfl,rfl,rfl,he⟩
theorem aJa (ps : Ps) (p : Nat) (d n z : Nat) (o : Bool) (hp : ps.ok) (he : ps.e = 0) (hx : hdF ps.rest = some (2, n, o, z)) {W0 : Cx} {U : View} {σF : aF} {W : World} (hM : Mem W0 U ([(p, ps.O)] ++ σF) W) : CP 181 #[.pointer (some ⟨p, 0, none⟩), .int .i64 ((d + 1 : Nat) : Int)] W (fN W0 U σF (qQ p ps (itF (d + 1) ps.rest))) := by
 have hle := hp.le
 have hlen := hp.len
 unfold R47 at hlen
 have hrl : ps.rest.length = ps.b.length - ps.at_ := List.length_drop
 have hd1 : decide (((d + 1 : Nat) : Int) < 1) = false := decide_eq_false oW
 have hz := iT hx
 have hit : itF (d + 1) ps.rest = lT 2 (aBN ps.rest n z o 1073741824) := by rw [itF,hx]; rfl
 have hM2 : Mem W0 U ([(bK p [(St ps.b),(I6 (ps.at_ : Int)),(I6 ps.e)] 245)] ++ σF) W := hM.eqv kR
 refine eC 118 Tryz.func181 hM2 ?_
 refine zs (zr (dN 1 (fun b0 => ?_)))
 refine zn (zQ 1 (dI 0 (fun W hM => dD ps p hp hM) (fun v1 V1 s1 hV1 hP1 => ?_)))
 obtain ⟨r1,rfl,rfl⟩ := hP1
 refine zq 1 (zn (zQ 1 (gF 0 (r1,(Rd.new ps.rest).O) 212 #[(Pt r1 0)] (pH r1 ps.rest (some (2,n,o,z))) (fun W hM => hx ▸ dQ ps.rest r1 (Ps.rest_len hp) hM) (fun v2 V2 s2 hV2 hP2 => ?_))))
 obtain ⟨rfl,rfl⟩ := hP2
 refine zq 7 (zn (zs (zQ 1 (dI 0 (x := (r1,(hdR ps.rest (some (2,n,o,z))).O)) (fun W hM => eZ (⟨ps.rest,z,-1,0,0⟩ : Rd) r1 (hM.eqv kR)) (fun v3 V3 s3 hV3 hP3 => ?_)))))
 obtain ⟨rfl,rfl⟩ := hP3
 refine zq 5 (zn (zQ 2 (zn (dE (zk (zs (aB (zQ 15 (zn (dE (zQ 3 (zn (eS (decide (((d + 1 : Nat) : Int) < 1)) hd1 ?_)))))))))))))
 refine zQ 3 (zn (dE (zQ 3 (zn (dF (zQ 2 (gF 1 (bK p [(St ps.b),(I6 (ps.at_ : Int)),(I6 ps.e)] 245) 215 #[(Pt p 0),(I6 2)] (qQ p ps (lT 2 (aBN ps.rest n z o 1073741824))) (fun W hM => aN4 ps p n z o _ hp he hx rfl (hM.eqv kR)) (fun v4 V4 s4 hV4 hP4 => ?_))))))))
 obtain ⟨t4,cs4,ps4,rfl,ht4,rfl,hb4,hy4⟩ := hP4
 obtain ⟨a4,c4,rfl,hts4,hn4,hs4,hl4⟩ := ht4.form
 refine aY 2 b0 (zn (aA (dU [3] [(b0,5)] [(tV t4 a4 c4)] (fun W' hM => ?_))))
 rw [hit]
 exact dP 0 3 _ hM (View.le_trans (View.le_trans (View.le_trans hV1 hV2) hV3) hV4) ⟨t4,_,ps4,rfl,ht4,rfl,hb4,hy4⟩
theorem aI9 (ps : Ps) (p : Nat) (d n z : Nat) (o : Bool) (hp : ps.ok) (he : ps.e = 0) (hx : hdF ps.rest = some (3, n, o, z)) {W0 : Cx} {U : View} {σF : aF} {W : World} (hM : Mem W0 U ([(p, ps.O)] ++ σF) W) : CP 181 #[.pointer (some ⟨p, 0, none⟩), .int .i64 ((d + 1 : Nat) : Int)] W (fN W0 U σF (qQ p ps (itF (d + 1) ps.rest))) := by
 have hle := hp.le
 have hlen := hp.len
 unfold R47 at hlen
 have hrl : ps.rest.length = ps.b.length - ps.at_ := List.length_drop
 have hd1 : decide (((d + 1 : Nat) : Int) < 1) = false := decide_eq_false oW
 have hz := iT hx
 have hit : itF (d + 1) ps.rest = lT 3 (aBN ps.rest n z o 1073741824) := by rw [itF,hx]; rfl
 have hM2 : Mem W0 U ([(bK p [(St ps.b),(I6 (ps.at_ : Int)),(I6 ps.e)] 245)] ++ σF) W := hM.eqv kR
 refine eC 118 Tryz.func181 hM2 ?_
 refine zs (zr (dN 1 (fun b0 => ?_)))
 refine zn (zQ 1 (dI 0 (fun W hM => dD ps p hp hM) (fun v1 V1 s1 hV1 hP1 => ?_)))
 obtain ⟨r1,rfl,rfl⟩ := hP1
 refine zq 1 (zn (zQ 1 (gF 0 (r1,(Rd.new ps.rest).O) 212 #[(Pt r1 0)] (pH r1 ps.rest (some (3,n,o,z))) (fun W hM => hx ▸ dQ ps.rest r1 (Ps.rest_len hp) hM) (fun v2 V2 s2 hV2 hP2 => ?_))))
 obtain ⟨rfl,rfl⟩ := hP2
 refine zq 7 (zn (zs (zQ 1 (dI 0 (x := (r1,(hdR ps.rest (some (3,n,o,z))).O)) (fun W hM => eZ (⟨ps.rest,z,-1,0,0⟩ : Rd) r1 (hM.eqv kR)) (fun v3 V3 s3 hV3 hP3 => ?_)))))
 obtain ⟨rfl,rfl⟩ := hP3
 refine zq 5 (zn (zQ 2 (zn (dE (zk (zs (aB (zQ 15 (zn (dE (zQ 3 (zn (eS (decide (((d + 1 : Nat) : Int) < 1)) hd1 ?_)))))))))))))
 refine zQ 3 (zn (dE (zQ 3 (zn (dF (zQ 2 (gF 1 (bK p [(St ps.b),(I6 (ps.at_ : Int)),(I6 ps.e)] 245) 215 #[(Pt p 0),(I6 3)] (qQ p ps (lT 3 (aBN ps.rest n z o 1073741824))) (fun W hM => aN3 ps p n z o _ hp he hx rfl (hM.eqv kR)) (fun v4 V4 s4 hV4 hP4 => ?_))))))))
 obtain ⟨t4,cs4,ps4,rfl,ht4,rfl,hb4,hy4⟩ := hP4
 obtain ⟨a4,c4,rfl,hts4,hn4,hs4,hl4⟩ := ht4.form
 refine aY 2 b0 (zn (aA (dU [3] [(b0,5)] [(tV t4 a4 c4)] (fun W' hM => ?_))))
 rw [hit]
 exact dP 0 3 _ hM (View.le_trans (View.le_trans (View.le_trans hV1 hV2) hV3) hV4) ⟨t4,_,ps4,rfl,ht4,rfl,hb4,hy4⟩
theorem aJb (ps : Ps) (p : Nat) (d n z : Nat) (hp : ps.ok) (he : ps.e = 0) (hx : hdF ps.rest = some (4, n, true, z)) (hdl : d ≤ 1000) (hI : tM d) {W0 : Cx} {U : View} {σF : aF} {W : World} (hM : Mem W0 U ([(p, ps.O)] ++ σF) W) : CP 181 #[.pointer (some ⟨p, 0, none⟩), .int .i64 ((d + 1 : Nat) : Int)] W (fN W0 U σF (qQ p ps (itF (d + 1) ps.rest))) := by
 have hle := hp.le
 have hlen := hp.len
 unfold R47 at hlen
 have hrl : ps.rest.length = ps.b.length - ps.at_ := List.length_drop
 have hd1 : decide (((d + 1 : Nat) : Int) < 1) = false := decide_eq_false oW
 have hz := iT hx
 have hp2 : (⟨ps.b,ps.at_ + z,ps.e⟩ : Ps).ok := ⟨by show ps.at_ + z ≤ ps.b.length; omega,hp.len⟩
 have hr2 : (⟨ps.b,ps.at_ + z,ps.e⟩ : Ps).rest = ps.rest.drop z := by unfold Ps.rest; rw [List.drop_drop]
 have hit : itF (d + 1) ps.rest = pG true z (aCZ (itF d) 0 (⟨ps.b,ps.at_ + z,ps.e⟩ : Ps).rest) := by rw [hr2,itF,hx]; rfl
 have hM2 : Mem W0 U ([(bK p [(St ps.b),(I6 (ps.at_ : Int)),(I6 ps.e)] 245)] ++ σF) W := hM.eqv kR
 refine eC 118 Tryz.func181 hM2 ?_
 refine zs (zr (dN 1 (fun b0 => ?_)))
 refine zn (zQ 1 (dI 0 (fun W hM => dD ps p hp hM) (fun v1 V1 s1 hV1 hP1 => ?_)))
 obtain ⟨r1,rfl,rfl⟩ := hP1
 refine zq 1 (zn (zQ 1 (gF 0 (r1,(Rd.new ps.rest).O) 212 #[(Pt r1 0)] (pH r1 ps.rest (some (4,n,true,z))) (fun W hM => hx ▸ dQ ps.rest r1 (Ps.rest_len hp) hM) (fun v2 V2 s2 hV2 hP2 => ?_))))
 obtain ⟨rfl,rfl⟩ := hP2
 refine zq 7 (zn (zs (zQ 1 (dI 0 (x := (r1,(hdR ps.rest (some (4,n,true,z))).O)) (fun W hM => eZ (⟨ps.rest,z,-1,0,0⟩ : Rd) r1 (hM.eqv kR)) (fun v3 V3 s3 hV3 hP3 => ?_)))))
 obtain ⟨rfl,rfl⟩ := hP3
 refine zq 5 (zn (zQ 2 (zn (dE (zk (zs (aB (zQ 15 (zn (dE (zQ 3 (zn (eS (decide (((d + 1 : Nat) : Int) < 1)) hd1 ?_)))))))))))))
 refine zQ 3 (zn (dE (zQ 3 (zn (dE (zk (zQ 1 (dI 1 (fun W hM => dD ps p hp hM) (fun v4 V4 s4 hV4 hP4 => ?_)))))))))
 obtain ⟨r4,rfl,rfl⟩ := hP4
 refine zq 1 (zn (zQ 1 (dI 0 (fun W hM => aFa ps.rest r4 n z hx (Ps.rest_len hp) hM) (fun v5 V5 s5 hV5 hP5 => ?_))))
 obtain ⟨rfl,rfl⟩ := hP5
 refine zq 1 (zn (zs (zQ 1 (dI 0 (x := (r4,(⟨ps.rest,z,-1,0,0⟩ : Rd).O)) (fun W hM => eZ (⟨ps.rest,z,-1,0,0⟩ : Rd) r4 (hM.eqv kR)) (fun v6 V6 s6 hV6 hP6 => ?_)))))
 obtain ⟨rfl,rfl⟩ := hP6
 refine zq 5 (zn (zQ 2 (zn (dE (zk (zs ?_))))))
 refine gU 3 [0,0,0,4,0,1] [(p,1)] [.val (I6 (z : Int))] ⟨?_,trivial⟩ ?_
 · exact vC 214 #[(Pt r4 0)] (fun W hM => aNk (⟨ps.rest,z,-1,0,0⟩ : Rd) r4 0 hM kR)
 refine zq 1 (eV 111 ((ps.at_ : Int) + (z : Int)) (zq 2 (aY 1 p (zn (zQ 3 (dI 1 (x := (bK p [(St ps.b),(I6 ((ps.at_ : Int) + (z : Int))),(I6 ps.e)] 245)) (fun W hM => aG4 d hdl hI (⟨ps.b,ps.at_ + z,ps.e⟩ : Ps) p hp2 he (hM.eqv kR)) (fun v7 V7 s7 hV7 hP7 => ?_)))))))
 obtain ⟨t7,cs7,ps7,rfl,ht7,rfl,hb7,hy7⟩ := hP7
 obtain ⟨a7,c7,rfl,hts7,hn7,hs7,hl7⟩ := ht7.form
 refine aY 3 b0 (zn (aA (dU [4] [(b0,5)] [(tV t7 a7 c7)] (fun W' hM => ?_))))
 rw [hit]
 exact dP 0 4 _ hM (View.le_trans (View.le_trans (View.le_trans (View.le_trans (View.le_trans (View.le_trans hV1 hV2) hV3) hV4) hV5) hV6) hV7) (aB9 ⟨t7,_,ps7,rfl,ht7,rfl,hb7,hy7⟩)
theorem aMy (ps : Ps) (p : Nat) (d n z : Nat) (hp : ps.ok) (he : ps.e = 0) (hx : hdF ps.rest = some (4, n, false, z)) (hn : n ≤ 1000) (hdl : d ≤ 1000) (hI : tM d) {W0 : Cx} {U : View} {σF : aF} {W : World} (hM : Mem W0 U ([(p, ps.O)] ++ σF) W) : CP 181 #[.pointer (some ⟨p, 0, none⟩), .int .i64 ((d + 1 : Nat) : Int)] W (fN W0 U σF (qQ p ps (itF (d + 1) ps.rest))) := by
 have hle := hp.le
 have hlen := hp.len
 unfold R47 at hlen
 have hrl : ps.rest.length = ps.b.length - ps.at_ := List.length_drop
 have hd1 : decide (((d + 1 : Nat) : Int) < 1) = false := decide_eq_false oW
 have hz := iT hx
 have hnd : decide ((n : Int) > 1000) = false := decide_eq_false oW
 have hp2 : (⟨ps.b,ps.at_ + z,ps.e⟩ : Ps).ok := ⟨by show ps.at_ + z ≤ ps.b.length; omega,hp.len⟩
 have hr2 : (⟨ps.b,ps.at_ + z,ps.e⟩ : Ps).rest = ps.rest.drop z := by unfold Ps.rest; rw [List.drop_drop]
 have hit : itF (d + 1) ps.rest = pG false z (rI (itF d) n 0 (⟨ps.b,ps.at_ + z,ps.e⟩ : Ps).rest) := by rw [hr2,itF,hx]; simp only [Nat.reduceEqDiff,if_false,if_true,Bool.false_eq_true,hn]; rfl
 have hM2 : Mem W0 U ([(bK p [(St ps.b),(I6 (ps.at_ : Int)),(I6 ps.e)] 245)] ++ σF) W := hM.eqv kR
 refine eC 118 Tryz.func181 hM2 ?_
 refine zs (zr (dN 1 (fun b0 => ?_)))
 refine zn (zQ 1 (dI 0 (fun W hM => dD ps p hp hM) (fun v1 V1 s1 hV1 hP1 => ?_)))
 obtain ⟨r1,rfl,rfl⟩ := hP1
 refine zq 1 (zn (zQ 1 (gF 0 (r1,(Rd.new ps.rest).O) 212 #[(Pt r1 0)] (pH r1 ps.rest (some (4,n,false,z))) (fun W hM => hx ▸ dQ ps.rest r1 (Ps.rest_len hp) hM) (fun v2 V2 s2 hV2 hP2 => ?_))))
 obtain ⟨rfl,rfl⟩ := hP2
 refine zq 7 (zn (zs (zQ 1 (dI 0 (x := (r1,(hdR ps.rest (some (4,n,false,z))).O)) (fun W hM => eZ (⟨ps.rest,z,-1,0,0⟩ : Rd) r1 (hM.eqv kR)) (fun v3 V3 s3 hV3 hP3 => ?_)))))
 obtain ⟨rfl,rfl⟩ := hP3
 refine zq 5 (zn (zQ 2 (zn (dE (zk (zs (aB (zQ 15 (zn (dE (zQ 3 (zn (eS (decide (((d + 1 : Nat) : Int) < 1)) hd1 ?_)))))))))))))
 refine zQ 3 (zn (dE (zQ 3 (zn (dE (zk (zQ 1 (dI 1 (fun W hM => dD ps p hp hM) (fun v4 V4 s4 hV4 hP4 => ?_)))))))))
 obtain ⟨r4,rfl,rfl⟩ := hP4
 refine zq 1 (zn (zQ 1 (dI 0 (fun W hM => aIJ ps.rest r4 n z hx (Ps.rest_len hp) hnd hM) (fun v5 V5 s5 hV5 hP5 => ?_))))
 obtain ⟨rfl,rfl⟩ := hP5
 refine zq 1 (zn (zs (zQ 1 (dI 0 (x := (r4,(⟨ps.rest,z,-1,0,0⟩ : Rd).O)) (fun W hM => eZ (⟨ps.rest,z,-1,0,0⟩ : Rd) r4 (hM.eqv kR)) (fun v6 V6 s6 hV6 hP6 => ?_)))))
 obtain ⟨rfl,rfl⟩ := hP6
 refine zq 5 (zn (zQ 2 (zn (dE (zk (zs ?_))))))
 refine gU 3 [0,0,0,4,0,1] [(p,1)] [.val (I6 (z : Int))] ⟨?_,trivial⟩ ?_
 · exact vC 214 #[(Pt r4 0)] (fun W hM => aNk (⟨ps.rest,z,-1,0,0⟩ : Rd) r4 0 hM kR)
 refine zq 1 (eV 111 ((ps.at_ : Int) + (z : Int)) (zq 2 (aY 1 p (zn (zQ 3 (dI 1 (x := (bK p [(St ps.b),(I6 ((ps.at_ : Int) + (z : Int))),(I6 ps.e)] 245)) (fun W hM => aDS d n hn hdl hI (⟨ps.b,ps.at_ + z,ps.e⟩ : Ps) p hp2 he (hM.eqv kR)) (fun v7 V7 s7 hV7 hP7 => ?_)))))))
 obtain ⟨t7,cs7,ps7,rfl,ht7,rfl,hb7,hy7⟩ := hP7
 obtain ⟨a7,c7,rfl,hts7,hn7,hs7,hl7⟩ := ht7.form
 refine aY 3 b0 (zn (aA (dU [4] [(b0,5)] [(tV t7 a7 c7)] (fun W' hM => ?_))))
 rw [hit]
 exact dP 0 4 _ hM (View.le_trans (View.le_trans (View.le_trans (View.le_trans (View.le_trans (View.le_trans hV1 hV2) hV3) hV4) hV5) hV6) hV7) (aB9 ⟨t7,_,ps7,rfl,ht7,rfl,hb7,hy7⟩)
theorem aJd (ps : Ps) (p : Nat) (d n z : Nat) (hp : ps.ok) (he : ps.e = 0) (hx : hdF ps.rest = some (4, n, false, z)) (hn : ¬ n ≤ 1000) {W0 : Cx} {U : View} {σF : aF} {W : World} (hM : Mem W0 U ([(p, ps.O)] ++ σF) W) : CP 181 #[.pointer (some ⟨p, 0, none⟩), .int .i64 ((d + 1 : Nat) : Int)] W (fN W0 U σF (qQ p ps (itF (d + 1) ps.rest))) := by
 have hle := hp.le
 have hlen := hp.len
 unfold R47 at hlen
 have hrl : ps.rest.length = ps.b.length - ps.at_ := List.length_drop
 have hd1 : decide (((d + 1 : Nat) : Int) < 1) = false := decide_eq_false oW
 have hz := iT hx
 have hnd : decide ((n : Int) > 1000) = true := decide_eq_true oW
 have hit : itF (d + 1) ps.rest = none := by rw [itF,hx]; simp only [Nat.reduceEqDiff,if_false,if_true,Bool.false_eq_true,hn]
 have hM2 : Mem W0 U ([(bK p [(St ps.b),(I6 (ps.at_ : Int)),(I6 ps.e)] 245)] ++ σF) W := hM.eqv kR
 refine eC 118 Tryz.func181 hM2 ?_
 refine zs (zr (dN 1 (fun b0 => ?_)))
 refine zn (zQ 1 (dI 0 (fun W hM => dD ps p hp hM) (fun v1 V1 s1 hV1 hP1 => ?_)))
 obtain ⟨r1,rfl,rfl⟩ := hP1
 refine zq 1 (zn (zQ 1 (gF 0 (r1,(Rd.new ps.rest).O) 212 #[(Pt r1 0)] (pH r1 ps.rest (some (4,n,false,z))) (fun W hM => hx ▸ dQ ps.rest r1 (Ps.rest_len hp) hM) (fun v2 V2 s2 hV2 hP2 => ?_))))
 obtain ⟨rfl,rfl⟩ := hP2
 refine zq 7 (zn (zs (zQ 1 (dI 0 (x := (r1,(hdR ps.rest (some (4,n,false,z))).O)) (fun W hM => eZ (⟨ps.rest,z,-1,0,0⟩ : Rd) r1 (hM.eqv kR)) (fun v3 V3 s3 hV3 hP3 => ?_)))))
 obtain ⟨rfl,rfl⟩ := hP3
 refine zq 5 (zn (zQ 2 (zn (dE (zk (zs (aB (zQ 15 (zn (dE (zQ 3 (zn (eS (decide (((d + 1 : Nat) : Int) < 1)) hd1 ?_)))))))))))))
 refine zQ 3 (zn (dE (zQ 3 (zn (dE (zk (zQ 1 (dI 1 (fun W hM => dD ps p hp hM) (fun v4 V4 s4 hV4 hP4 => ?_)))))))))
 obtain ⟨r4,rfl,rfl⟩ := hP4
 refine zq 1 (zn (zQ 1 (dI 0 (fun W hM => aFb ps.rest r4 n z hx (Ps.rest_len hp) hnd hM) (fun v5 V5 s5 hV5 hP5 => ?_))))
 obtain ⟨rfl,rfl⟩ := hP5
 refine zq 1 (zn (zs (zQ 1 (dI 0 (x := (r4,(⟨ps.rest,0,0,4,0⟩ : Rd).O)) (fun W hM => eZ (⟨ps.rest,0,0,4,0⟩ : Rd) r4 (hM.eqv kR)) (fun v6 V6 s6 hV6 hP6 => ?_)))))
 obtain ⟨rfl,rfl⟩ := hP6
 refine zq 5 (zn (zQ 2 (zn (dF (zB [0,0,0,0,2,0] [(p,1)] (dI 1 (x := (bK p [(St ps.b),(I6 (ps.at_ : Int)),(I6 ps.e)] 245)) (fun W hM => gG ps p ps.at_ 4 (hM.eqv kR)) (fun v7 V7 s7 hV7 hP7 => ?_)))))))
 obtain ⟨rfl,rfl⟩ := hP7
 refine aY 3 b0 (zn (aA (dU [4] [(b0,5)] [(.agg #[(I6 0),(U6 0),(St []),S0,(.bool false)])] (fun W' hM => ?_))))
 rw [hit]
 exact dP 0 4 _ hM (View.le_trans (View.le_trans (View.le_trans (View.le_trans (View.le_trans (View.le_trans hV1 hV2) hV3) hV4) hV5) hV6) hV7) (iH (at_ := ps.at_) (e := 4) he (by decide))
theorem aIO : ∀ d, d ≤ 1000 → tM d := by
 intro d hd
 induction d with
 | zero =>
  intro ps p hp he W0 U σF W hM
  cases hx : hdF ps.rest with
  | none => exact aJc ps p 0 hp he hx hM
  | some q =>
   obtain ⟨m, n, o, z⟩ := q
   by_cases h0 : m = 0
   · subst h0; exact aHl ps p n z o hp he hx hM
   ·
    by_cases h2 : m = 2
    · subst h2; exact aHk ps p n z o hp he hx hM
    ·
     by_cases h3 : m = 3
     · subst h3; exact aHj ps p n z o hp he hx hM
     ·
      by_cases h4 : m = 4
      · subst h4; exact aHi ps p n z o hp he hx hM
      · exact aCm ps p 0 m n z o hp he hx h0 h2 h3 h4 hM
 | succ d ih =>
  intro ps p hp he W0 U σF W hM
  cases hx : hdF ps.rest with
  | none => exact aJc ps p (d + 1) hp he hx hM
  | some q =>
   obtain ⟨m, n, o, z⟩ := q
   by_cases h0 : m = 0
   · subst h0; exact aLf ps p d n z o hp he hx hM
   ·
    by_cases h2 : m = 2
    · subst h2; exact aJa ps p d n z o hp he hx hM
    ·
     by_cases h3 : m = 3
     · subst h3; exact aI9 ps p d n z o hp he hx hM
     ·
      by_cases h4 : m = 4
      ·
       subst h4
       cases o with
       | true => exact aJb ps p d n z hp he hx oW (ih oW) hM
       | false =>
        by_cases hn : n ≤ 1000
        · exact aMy ps p d n z hp he hx hn oW (ih oW) hM
        · exact aJd ps p d n z hp he hx hn hM
      · exact aCm ps p (d + 1) m n z o hp he hx h0 h2 h3 h4 hM
def lW (b : List UInt8) : Option Itm.Tr := match itF 8 b with
 | some (t, k) => if k = b.length then some t else none
 | none => none
def aMS (x : Option Itm.Tr) (v : Value) (V : View) : Prop := match x with
 | some t => ∃ cs, v = .tuple #[.agg cs.toArray, .int .i64 (-1), .int .i64 0] ∧ TV V t cs
 | none => ∃ n e, v = .tuple #[itZ, .int .i64 n, .int .i64 e] ∧ e ≠ 0
theorem aFf {b : List UInt8} {t : Itm.Tr} {ps' : Ps} (hy : match itF 8 b with
 | some (t', k) => t = t' ∧ ps'.at_ = 0 + k ∧ ps'.e = 0
 | none => ps'.e ≠ 0) : (ps'.e ≠ 0 → lW b = none) ∧ (ps'.e = 0 → ps'.at_ ≤ b.length ∧ (ps'.at_ < b.length → lW b = none) ∧ (¬ ps'.at_ < b.length → lW b = some t)) := by
 unfold lW
 cases hq : itF 8 b with
 | none =>
  rw [hq] at hy
  exact ⟨fun _ => rfl, fun h => absurd h hy⟩
 | some q =>
  obtain ⟨t', k⟩ := q
  rw [hq] at hy
  simp only at hy
  obtain ⟨rfl, h2, h3⟩ := hy
  have hk := rG 8 b _ _ hq
  refine ⟨fun h => absurd h3 h, fun _ => ⟨by omega, fun h => ?_, fun h => ?_⟩⟩
  ·
   simp only
   rw [if_neg oW]
  ·
   simp only
   rw [if_pos oW]
theorem aG5 (ps : Ps) (p at_ : Nat) (e : Int) (h : (ps.e == 0) = true) {W0 : Cx} {U : View} {σF : aF} {W : World} (hM : Mem W0 U ([(p, ps.O)] ++ σF) W) : CP 182 #[.pointer (some ⟨p, 0, none⟩), .int .i64 (at_ : Int), .int .i64 e] W (fN W0 U σF fun v _ σ' => v = itZ ∧ σ' = [(p, (⟨ps.b, at_, e⟩ : Ps).O)]) := by
 have h2 := gG ps p at_ e hM
 rw [show ps.fail at_ e = ⟨ps.b, at_, e⟩ from by unfold Ps.fail; rw [if_pos h]] at h2
 exact h2
theorem aCp (b : List UInt8) (w : World) {U : View} (hU : See U w) (hb : b.length ≤ R47) : CP 137 #[.string (B b)] w (rO w U (aMS (lW b))) := by
 have hb47 := hb
 unfold R47 at hb47
 refine eG 47 Tryz.func137 hU ?_
 refine zs (zr (cJ (fun b0 => (zq 2 (zn (zQ 2 (cJ (fun b1 => (zq 1 (zn (zQ 1 (gF 1 (bK b1 [(St b),(I6 0),(I6 0)] 245) 181 #[(Pt b1 0),(I6 8)] (qQ b1 ⟨b,0,0⟩ (itF 8 (Ps.rest ⟨b,0,0⟩))) (fun W hM => aIO 8 (by decide) ⟨b,0,0⟩ b1 ⟨Nat.zero_le _,hb⟩ rfl (hM.eqv kR)) (fun v2 V2 s2 hV2 hP2 => ?_)))))))))))))
 obtain ⟨t2,cs2,ps2,rfl,ht2,rfl,hb2,hy2⟩ := hP2
 obtain ⟨a2,c2,rfl,hts2,hn2,hs2,hl2⟩ := ht2.form
 have hP2 := aFf (b := b) (ps' := ps2) hy2
 refine cJ (fun b3 => (aY 2 b3 (zn (zs (zB [0,0,0,1,0,0] [(b1,1)] (aK 17 (ps2.e == 0) (fun h0 => ?_) (fun h0 => ?_)))))))
 ·
  have h0d := eq_of_beq h0
  refine cU [0,0,0,1,0,0,0,0] [(b1,1)] (zn (cD (decide ((ps2.at_ : Int) < (((b).length : Nat) : Int))) (fun h1 => ?_) (fun h1 => ?_)))
  ·
   have h1d := of_decide_eq_true h1
   refine zr (cU [0,0,0,0,1] [(b1,1)] (gF 0 (bK b1 [(St ps2.b),(I6 (ps2.at_ : Int)),(I6 ps2.e)] 245) 182 #[(Pt b1 0),(I6 (ps2.at_ : Int)),(I6 2)] (fun v _ σ' => v = itZ ∧ σ' = [(b1,(⟨ps2.b,ps2.at_,2⟩ : Ps).O)]) (fun W hM => (aG5 ps2 b1 ps2.at_ 2 h0 (hM.eqv kR))) (fun v4 V4 s4 hV4 hP4 => ?_)))
   obtain ⟨rfl,rfl⟩ := hP4
   refine zn (zs (zB [0,0,0,1,0] [(b1,1)] (zn (dF (zs ?_)))))
   refine aAW 11 1 0 [37,38,39,40,41,42,43,44,45,0,3] [.val (.agg #[(I6 0),(U6 0),(St []),S0,(.bool false)]),.val (Pt b1 0),.val (Pt b1 0),.val (Pt b1 1),.val (I6 (ps2.at_ : Int)),.val (Pt b1 0),.val (Pt b1 0),.val (Pt b1 2),.val (I6 2),.mem (fun _ _ => True),.val (I6 (ps2.at_ : Int))] 9 [(bK b1 [(St ps2.b),(I6 (ps2.at_ : Int)),(I6 2)] 245),(b0,.cells [(I6 0),(U6 0),(St []),S0,(.bool false)].toArray 89 (0,0)),(bK b3 (tC t2 a2 c2) 89)] kR rfl rfl kR kR kR kR kR kR (by simp only [List.forall_mem_cons]; exact ⟨trivial,trivial,trivial,trivial,trivial,trivial,trivial,trivial,trivial,by intro v V V2 hV2 hP; (first | trivial | exact PhiMono.go hP hV2 | (obtain ⟨g,e,hP⟩ := hP; exact ⟨g,e,hP.le hV2⟩)),trivial,fun _ h => by cases h⟩) kR (show (9 : Nat) < 11 by decide) rfl ⟨?_,?_,?_,?_,?_,?_,?_,?_,?_,?_,?_,trivial⟩ [2,3,4,6,45] (fun u => [(Pt b0 0),(I6 (ps2.at_ : Int)),(I6 0),(Pt b3 0),(I6 2)]) kF ?_
   · exact ObS.o 0 (show (0 : Nat) ≠ 9 by decide) (oqQ 0 rfl (.agg #[(I6 0),(U6 0),(St []),S0,(.bool false)]) (.agg #[(I6 0),(U6 0),(St []),S0,(.bool false)]) rfl rfl kF kF) (oqQ 0 rfl (.agg #[(I6 0),(U6 0),(St []),S0,(.bool false)]) (.agg #[(I6 0),(U6 0),(St []),S0,(.bool false)]) rfl rfl kF kF)
   · exact ObS.o 1 (show (1 : Nat) ≠ 9 by decide) (oqQ 1 rfl (Pt b1 0) (Pt b1 0) rfl rfl kF kF) (oqQ 1 rfl (Pt b1 0) (Pt b1 0) rfl rfl kF kF)
   · exact ObS.o 2 (show (2 : Nat) ≠ 9 by decide) (oqQ 2 rfl (Pt b1 0) (Pt b1 0) rfl rfl kF kF) (oqQ 2 rfl (Pt b1 0) (Pt b1 0) rfl rfl kF kF)
   · exact ObS.o 3 (show (3 : Nat) ≠ 9 by decide) (oqQ 3 rfl (Pt b1 1) (Pt b1 1) rfl rfl kF kF) (oqQ 3 rfl (Pt b1 1) (Pt b1 1) rfl rfl kF kF)
   · exact ObS.o 4 (show (4 : Nat) ≠ 9 by decide) (oqL 4 0 b1 1 [(St ps2.b),(I6 (ps2.at_ : Int)),(I6 2)] 245 rfl (I6 (ps2.at_ : Int)) rfl kR kF kF) (oqL 4 0 b1 1 [(St ps2.b),(I6 (ps2.at_ : Int)),(I6 2)] 245 rfl (I6 (ps2.at_ : Int)) rfl kR kF kF)
   · exact ObS.o 5 (show (5 : Nat) ≠ 9 by decide) (oqQ 5 rfl (Pt b1 0) (Pt b1 0) rfl rfl kF kF) (oqQ 5 rfl (Pt b1 0) (Pt b1 0) rfl rfl kF kF)
   · exact ObS.o 6 (show (6 : Nat) ≠ 9 by decide) (oqQ 6 rfl (Pt b1 0) (Pt b1 0) rfl rfl kF kF) (oqQ 6 rfl (Pt b1 0) (Pt b1 0) rfl rfl kF kF)
   · exact ObS.o 7 (show (7 : Nat) ≠ 9 by decide) (oqQ 7 rfl (Pt b1 2) (Pt b1 2) rfl rfl kF kF) (oqQ 7 rfl (Pt b1 2) (Pt b1 2) rfl rfl kF kF)
   · exact ObS.o 8 (show (8 : Nat) ≠ 9 by decide) (oqL 8 0 b1 1 [(St ps2.b),(I6 (ps2.at_ : Int)),(I6 2)] 245 rfl (I6 2) rfl kR kF kF) (oqL 8 0 b1 1 [(St ps2.b),(I6 (ps2.at_ : Int)),(I6 2)] 245 rfl (I6 2) rfl kR kF kF)
   · exact ObS.st 1 b0 (.cells [(I6 0),(U6 0),(St []),S0,(.bool false)].toArray 89 (0,0)) rfl rfl rfl [2,37] (fun u => [(Pt b0 0),(.agg #[(I6 0),(U6 0),(St []),S0,(.bool false)])]) kF kF kR
   · exact ObS.o 10 (show (10 : Nat) ≠ 9 by decide) (oqQ 10 rfl (I6 (ps2.at_ : Int)) (I6 (ps2.at_ : Int)) rfl rfl kF kF) (oqQ 10 rfl (I6 (ps2.at_ : Int)) (I6 (ps2.at_ : Int)) rfl rfl kF kF)
   intro u7 V7 hV7 hdq7
   refine zq 1 (zn (aA (dU [2,0,0] [(b0,5)] [(.agg #[(I6 0),(U6 0),(St []),S0,(.bool false)]),(I6 (ps2.at_ : Int)),(I6 2)] (fun W' hM => ?_))))
   have hq := (hP2.2 (eq_of_beq h0)).2.1 (by have := of_decide_eq_true h1; omega)
   rw [hq]
   exact cF hM (View.le_trans (View.le_trans hV2 hV4) hV7) ⟨_,_,rfl,by decide⟩
  ·
   have h1d := of_decide_eq_false h1
   refine zk (zs (zB [0,0,0,1,0] [(b1,1)] (zn (eS (ps2.e != 0) (by rw [eq_of_beq h0]; rfl) ?_))))
   refine zk (zB [3] [(b3,5)] (aY 1 b0 (zq 2 (zn (aA (dU [2,0,0] [(b0,5)] [(tV t2 a2 c2),(I6 (-1)),(I6 0)] (fun W' hM => ?_)))))))
   have hq := (hP2.2 (eq_of_beq h0)).2.2 (by have := of_decide_eq_false h1; omega)
   rw [hq]
   exact cF hM hV2 ⟨_,rfl,ht2⟩
 ·
  refine zq 8 (zn (dE (zk (zs (zB [0,0,0,1,0] [(b1,1)] (zn (gP (ps2.e != 0) (bne_iff_ne.2 (beq_eq_false_iff_ne.1 h0)) ?_)))))))
  refine zs ?_
  refine aAW 11 1 0 [37,38,39,40,41,42,43,44,45,0,3] [.val (.agg #[(I6 0),(U6 0),(St []),S0,(.bool false)]),.val (Pt b1 0),.val (Pt b1 0),.val (Pt b1 1),.val (I6 (ps2.at_ : Int)),.val (Pt b1 0),.val (Pt b1 0),.val (Pt b1 2),.val (I6 ps2.e),.mem (fun _ _ => True),.val (I6 (ps2.at_ : Int))] 9 [(bK b1 [(St ps2.b),(I6 (ps2.at_ : Int)),(I6 ps2.e)] 245),(b0,.cells [(I6 0),(U6 0),(St []),S0,(.bool false)].toArray 89 (0,0)),(bK b3 (tC t2 a2 c2) 89)] kR rfl rfl kR kR kR kR kR kR (by simp only [List.forall_mem_cons]; exact ⟨trivial,trivial,trivial,trivial,trivial,trivial,trivial,trivial,trivial,by intro v V V2 hV2 hP; (first | trivial | exact PhiMono.go hP hV2 | (obtain ⟨g,e,hP⟩ := hP; exact ⟨g,e,hP.le hV2⟩)),trivial,fun _ h => by cases h⟩) kR (show (9 : Nat) < 11 by decide) rfl ⟨?_,?_,?_,?_,?_,?_,?_,?_,?_,?_,?_,trivial⟩ [2,3,4,6,45] (fun u => [(Pt b0 0),(I6 (ps2.at_ : Int)),(I6 0),(Pt b3 0),(I6 ps2.e)]) kF ?_
  · exact ObS.o 0 (show (0 : Nat) ≠ 9 by decide) (oqQ 0 rfl (.agg #[(I6 0),(U6 0),(St []),S0,(.bool false)]) (.agg #[(I6 0),(U6 0),(St []),S0,(.bool false)]) rfl rfl kF kF) (oqQ 0 rfl (.agg #[(I6 0),(U6 0),(St []),S0,(.bool false)]) (.agg #[(I6 0),(U6 0),(St []),S0,(.bool false)]) rfl rfl kF kF)
  · exact ObS.o 1 (show (1 : Nat) ≠ 9 by decide) (oqQ 1 rfl (Pt b1 0) (Pt b1 0) rfl rfl kF kF) (oqQ 1 rfl (Pt b1 0) (Pt b1 0) rfl rfl kF kF)
  · exact ObS.o 2 (show (2 : Nat) ≠ 9 by decide) (oqQ 2 rfl (Pt b1 0) (Pt b1 0) rfl rfl kF kF) (oqQ 2 rfl (Pt b1 0) (Pt b1 0) rfl rfl kF kF)
  · exact ObS.o 3 (show (3 : Nat) ≠ 9 by decide) (oqQ 3 rfl (Pt b1 1) (Pt b1 1) rfl rfl kF kF) (oqQ 3 rfl (Pt b1 1) (Pt b1 1) rfl rfl kF kF)
  · exact ObS.o 4 (show (4 : Nat) ≠ 9 by decide) (oqL 4 0 b1 1 [(St ps2.b),(I6 (ps2.at_ : Int)),(I6 ps2.e)] 245 rfl (I6 (ps2.at_ : Int)) rfl kR kF kF) (oqL 4 0 b1 1 [(St ps2.b),(I6 (ps2.at_ : Int)),(I6 ps2.e)] 245 rfl (I6 (ps2.at_ : Int)) rfl kR kF kF)
  · exact ObS.o 5 (show (5 : Nat) ≠ 9 by decide) (oqQ 5 rfl (Pt b1 0) (Pt b1 0) rfl rfl kF kF) (oqQ 5 rfl (Pt b1 0) (Pt b1 0) rfl rfl kF kF)
  · exact ObS.o 6 (show (6 : Nat) ≠ 9 by decide) (oqQ 6 rfl (Pt b1 0) (Pt b1 0) rfl rfl kF kF) (oqQ 6 rfl (Pt b1 0) (Pt b1 0) rfl rfl kF kF)
  · exact ObS.o 7 (show (7 : Nat) ≠ 9 by decide) (oqQ 7 rfl (Pt b1 2) (Pt b1 2) rfl rfl kF kF) (oqQ 7 rfl (Pt b1 2) (Pt b1 2) rfl rfl kF kF)
  · exact ObS.o 8 (show (8 : Nat) ≠ 9 by decide) (oqL 8 0 b1 1 [(St ps2.b),(I6 (ps2.at_ : Int)),(I6 ps2.e)] 245 rfl (I6 ps2.e) rfl kR kF kF) (oqL 8 0 b1 1 [(St ps2.b),(I6 (ps2.at_ : Int)),(I6 ps2.e)] 245 rfl (I6 ps2.e) rfl kR kF kF)
  · exact ObS.st 1 b0 (.cells [(I6 0),(U6 0),(St []),S0,(.bool false)].toArray 89 (0,0)) rfl rfl rfl [2,37] (fun u => [(Pt b0 0),(.agg #[(I6 0),(U6 0),(St []),S0,(.bool false)])]) kF kF kR
  · exact ObS.o 10 (show (10 : Nat) ≠ 9 by decide) (oqQ 10 rfl (I6 (ps2.at_ : Int)) (I6 (ps2.at_ : Int)) rfl rfl kF kF) (oqQ 10 rfl (I6 (ps2.at_ : Int)) (I6 (ps2.at_ : Int)) rfl rfl kF kF)
  intro u10 V10 hV10 hdq10
  refine zq 1 (zn (aA (dU [2,0,0] [(b0,5)] [(.agg #[(I6 0),(U6 0),(St []),S0,(.bool false)]),(I6 (ps2.at_ : Int)),(I6 ps2.e)] (fun W' hM => ?_))))
  have hq := hP2.1 (beq_eq_false_iff_ne.1 h0)
  rw [hq]
  exact cF hM (View.le_trans hV2 hV10) ⟨_,_,rfl,beq_eq_false_iff_ne.1 h0⟩
def As.zero : As := ⟨[], 0, ⟨0, [], 0, 0⟩, [], []⟩
def aMT (x : Option As) (v : Value) (V : View) : Prop := match x with
 | some a => ∃ a1 a2 a3 c1 c2 c3, v = .tuple #[asV a a1 a2 a3 c1 c2 c3, .int .i64 0] ∧ aEH V a1 a2 a3 a ∧ a.t.length ≤ c1
 | none => v = .tuple #[asV As.zero none none none 0 0 0, .int .i64 2]
theorem aBe {a : As} {s : List UInt8} (ho : a.ok) (h : a.right = true) (hs : a.bytes = s) : lW (([159] ++ s) ++ [255]) = some (.mk 4 0 [] a.items true) := by
 subst hs
 have hp := rE ho h
 unfold lW
 rw [show ([159] ++ a.bytes) ++ [255] = 159 :: (a.bytes ++ [255]) from rfl, hp]
 simp only [if_true]
theorem aG2 {s : List UInt8} (h : lW (([159] ++ s) ++ [255]) = none) : gE s = none := rF fun a ho hr hs => by
 rw [aBe ho hr hs] at h
 cases h
theorem aG1 {s : List UInt8} {t : Itm.Tr} (h : lW (([159] ++ s) ++ [255]) = some t) (h2 : asR t.l = none) : gE s = none := rF fun a ho hr hs => by
 rw [aBe ho hr hs] at h
 obtain rfl := Option.some.inj h
 rw [show (Itm.Tr.mk 4 0 [] a.items true).l = a.items from rfl, qG hr] at h2
 cases h2
theorem aG0 {s : List UInt8} {t : Itm.Tr} {a : As} (h : lW (([159] ++ s) ++ [255]) = some t) (h2 : asR t.l = some a) {b : As} (ho : b.ok) (hr : b.right = true) (hs : b.bytes = s) : b = a := by
 rw [aBe ho hr hs] at h
 obtain rfl := Option.some.inj h
 rw [show (Itm.Tr.mk 4 0 [] b.items true).l = b.items from rfl, qG hr] at h2
 exact Option.some.inj h2
theorem aCc {s : List UInt8} {t : Itm.Tr} {a : As} (h : lW (([159] ++ s) ++ [255]) = some t) (h2 : asR t.l = some a) (h3 : a.right = false ∨ a.bytes ≠ s) : gE s = none := rF fun b ho hr hs => by
 obtain rfl := aG0 h h2 ho hr hs
 rcases h3 with h3 | h3
 · rw [h3] at hr; cases hr
 · exact h3 hs
theorem aBd {b : List UInt8} {t : Itm.Tr} (h : lW b = some t) : aOb t.l := by
 unfold lW at h
 split at h
 ·
  next t' k hq =>
  split at h
  ·
   obtain rfl := Option.some.inj h
   exact aJe hq
  · cases h
 · cases h
theorem lH (eA : Addr) (s : List UInt8) (w : World) {U : View} (hU : See U w) (hE : EF U eA) (hs : s.length ≤ 100000000000) : CP 96 #[.string (B s)] w (rO w U (aMT (gE s))) := by
 refine eG 43 Tryz.func96 hU ?_
 refine zs (zr (cJ (fun b0 => (zq 1 (zn (zs (zr (dL (fun W hM => aAd W) (zq 1 (cH (St ([159] ++ s)) (cE _ _ _ _ rfl [159] s kR kR oA) ?_))))))))))
 refine dL (fun W hM => aAc W) (cH (St (([159] ++ s) ++ [255])) (cE _ _ _ _ rfl ([159] ++ s) [255] kR kR oA) ?_)
 rcases Bool.eq_false_or_eq_true ((lW (([159] ++ s) ++ [255])).isSome) with h0 | h0
 ·
  refine aED (fun W hM => aCp (([159] ++ s) ++ [255]) W hM.view (by unfold R47; simp only [List.length_append,List.length_cons,List.length_nil]; omega)) (fun v1 V1 hV1 hP1 => ?_)
  obtain ⟨t1,hq1⟩ := Option.isSome_iff_exists.1 h0
  rw [hq1] at hP1
  obtain ⟨cs1,rfl,ht1⟩ := hP1
  obtain ⟨a1,c1,rfl,hts1,hn1,hs1,hl1⟩ := ht1.form
  refine zq 4 (cJ (fun b2 => (aY 1 b2 (zq 2 (zn (zs (zQ 2 (zn (dE (zk (zB [0,2] [(b2,1)] ?_)))))))))))
  rcases Bool.eq_false_or_eq_true ((asR t1.l).isSome) with h1 | h1
  ·
   refine aAn 139 #[(.slice a1 t1.l.length c1)] (aMU eA (asR t1.l)) (fun W hM => aFY eA t1.l _ _ W hM.view (hE.le hV1) hts1 (aBd hq1)) (fun v3 V3 hV3 hP3 => ?_)
   obtain ⟨a3,hq3⟩ := Option.isSome_iff_exists.1 h1
   rw [hq3] at hP3
   obtain ⟨x3,y3,z3,u3,v3,w3,rfl,hA3,hc3⟩ := hP3
   have fA3 := hA3.t
   have fB3 := hA3.p
   have fC3 := hA3.r
   refine zq 3 (cJ (fun b5 => (aY 2 b5 (zq 1 (zn (zs (zQ 1 (dL (fun W hM => aHm eA W hM.view (hE.le (View.le_trans hV1 hV3))) (cU [0,3] [(b5,8)] (dA 89 #[(.agg #[(.slice x3 a3.t.length u3),(I6 a3.c),(I6 a3.s.s),(St a3.s.l),(N6 a3.s.n),(N6 a3.s.v),(.slice y3 a3.p.length v3),(.slice z3 a3.r.length w3)])] (.bool (a3.right)) (fun W hM => aCI a3 _ _ _ _ _ _ W hM.view ⟨fA3,fB3,fC3,hA3.s⟩ hc3) ?_))))))))))
   refine zq 3 (aK 35 (!(a3.right)) (fun h2 => ?_) (fun h2 => ?_))
   ·
    refine zq 5 (zn (dF (zQ 1 (aY 0 b0 (zq 1 (zn (aA (dU [1,0] [(b0,8)] [(.agg #[S0,(I6 0),(I6 0),(St []),(U6 0),(U6 0),S0,S0]),(I6 2)] (fun W' hM => ?_)))))))))
    rw [aCc hq1 hq3 (.inl (by simpa using h2))]
    exact cF hM (View.le_trans hV1 hV3) rfl
   ·
    refine cU [3] [(b5,8)] (dA 90 #[(.agg #[(.slice x3 a3.t.length u3),(I6 a3.c),(I6 a3.s.s),(St a3.s.l),(N6 a3.s.n),(N6 a3.s.v),(.slice y3 a3.p.length v3),(.slice z3 a3.r.length w3)])] (St (a3.bytes)) (fun W hM => aDt a3 _ _ _ _ _ _ W hM.view ⟨fA3,fB3,fC3,hA3.s⟩ (As.shaped (by simpa using h2))) ?_)
    refine zq 1 (cH (.bool (!((a3.bytes) == s))) (mN _ _ _ _ rfl (a3.bytes) s kR kR) ?_)
    refine zq 1 (zn (cD (!((a3.bytes) == s)) (fun h3 => ?_) (fun h3 => ?_)))
    ·
     refine zQ 1 (aY 0 b0 (zq 1 (zn (aA (dU [1,0] [(b0,8)] [(.agg #[S0,(I6 0),(I6 0),(St []),(U6 0),(U6 0),S0,S0]),(I6 2)] (fun W' hM => ?_))))))
     rw [aCc hq1 hq3 (.inr (by simpa using h3))]
     exact cF hM (View.le_trans hV1 hV3) rfl
    ·
     refine zk (zB [3] [(b5,8)] (aY 0 b0 (zq 1 (zn (aA (dU [1,0] [(b0,8)] [(.agg #[(.slice x3 a3.t.length u3),(I6 a3.c),(I6 a3.s.s),(St a3.s.l),(N6 a3.s.n),(N6 a3.s.v),(.slice y3 a3.p.length v3),(.slice z3 a3.r.length w3)]),(I6 0)] (fun W' hM => ?_)))))))
     have hA9 : aEH _ _ _ _ a3 := ⟨fA3,fB3,fC3,hA3.s⟩
     have hby : a3.bytes = s := by simpa using h3
     have hz := aFg hA9.ok (show a3.right = true by simpa using h2)
     rw [hby] at hz
     rw [hz]
     exact cF hM (View.le_trans hV1 hV3) ⟨_,_,_,_,_,_,rfl,hA9,hc3⟩
  ·
   refine aAn 139 #[(.slice a1 t1.l.length c1)] (aMU eA (asR t1.l)) (fun W hM => aFY eA t1.l _ _ W hM.view (hE.le hV1) hts1 (aBd hq1)) (fun v6 V6 hV6 hP6 => ?_)
   have hq6 := Option.not_isSome_iff_eq_none.1 (by rw [h1]; exact Bool.false_ne_true)
   rw [hq6] at hP6
   obtain ⟨xa6,xn6,xc6,xk6,xs6,xl6,xm6,xo6,xp6,xq6,xr6,xt6,xu6,xv6,xe6,rfl⟩ := hP6
   refine zq 3 (cJ (fun b8 => (aY 2 b8 (zq 1 (zn (zs (zQ 1 (dL (fun W hM => aJg eA xe6 W hM.view (hE.le (View.le_trans hV1 hV6))) (zq 11 (zn (dF (zQ 1 (aY 0 b0 (zq 1 (zn (aA (dU [1,0] [(b0,8)] [(.agg #[S0,(I6 0),(I6 0),(St []),(U6 0),(U6 0),S0,S0]),(I6 2)] (fun W' hM => ?_))))))))))))))))))
   rw [aG1 hq1 hq6]
   exact cF hM (View.le_trans hV1 hV6) rfl
 ·
  refine aED (fun W hM => aCp (([159] ++ s) ++ [255]) W hM.view (by unfold R47; simp only [List.length_append,List.length_cons,List.length_nil]; omega)) (fun v9 V9 hV9 hP9 => ?_)
  have hq9 := Option.not_isSome_iff_eq_none.1 (by rw [h0]; exact Bool.false_ne_true)
  rw [hq9] at hP9
  obtain ⟨n9,e9,rfl,hz9⟩ := hP9
  refine zq 4 (cJ (fun b10 => (aY 1 b10 (zq 2 (zn (zs (zQ 2 (zn (gP (e9 != 0) (bne_iff_ne.2 hz9) ?_)))))))))
  refine zQ 1 (aY 0 b0 (zq 1 (zn (aA (dU [1,0] [(b0,8)] [(.agg #[S0,(I6 0),(I6 0),(St []),(U6 0),(U6 0),S0,S0]),(I6 2)] (fun W' hM => ?_))))))
  rw [aG2 hq9]
  exact cF hM hV9 rfl
def qY (l : List Bk) (o : Op) : Bool := (aJ l o.t).2 || o.t == 0
theorem aHH (x : Op) (kind target : Int) (pk pt : Nat) (w : World) {U : View} (hU : See U w) (hk : U ⟨pk, 0, none⟩ = some (.int .i64 kind)) (ht : U ⟨pt, 0, none⟩ = some (.int .i64 target)) : CP 165 #[x.V, .pointer (some ⟨pk, 0, none⟩), .pointer (some ⟨pt, 0, none⟩)] w (Ret (.bool (x.k == kind && x.t == target)) w) := by
 refine eG 15 Tryz.func165 hU ?_
 refine zs (zr (cJ (fun b0 => (zq 1 (zn (zB [0,1] [(b0,1)] (zV pk (0) (I6 kind) hk 3 (.tmp 1) _ Tryz.underlying3 rfl ?_)))))))
 refine zq 2 (aK 9 (x.k == kind) (fun h0 => ?_) (fun h0 => ?_))
 ·
  refine cU [0,1] [(b0,1)] (zV pt (0) (I6 target) ht 3 (.tmp 2) _ Tryz.underlying3 rfl ?_)
  refine zq 3 (zn (aA (aH [4] [(.bool (x.t == target))] (fun W' hM => ?_))))
  exact ⟨by simp only [cG,h0,bs,bQ,reduceIte],hM.below⟩
 ·
  refine zq 6 (zn (aA (aH [4] [(.bool false)] (fun W' hM => ?_))))
  exact ⟨by simp only [cG,h0,bs,bQ,reduceIte],hM.below⟩
def aBH (kind target : Int) : Nat → List Op → Int
 | _, [] => -1
 | i, x :: r => if x.k == kind && x.t == target then (i : Int) else aBH kind target (i + 1) r
theorem aCG {kind target : Int} {l : List Op} {i : Nat} {y : Op} (h : l[i]? = some y) : aBH kind target i (l.drop i) = if y.k == kind && y.t == target then (i : Int) else aBH kind target (i + 1) (l.drop (i + 1)) := by
 rw [cK h, aBH]
theorem aEz (kind target : Int) : ∀ (i : Nat) (l : List Op), decide (aBH kind target i l ≥ 0) = eK l kind target
 | _, [] => rfl
 | i, x :: r => by
  have ih := aEz kind target (i + 1) r
  unfold eK at ih ⊢
  rw [aBH, List.any_cons]
  cases x.k == kind && x.t == target with
  | true => simp
  | false => simpa using ih
theorem aJY (l : List Op) (a : Option Addr) (c : Nat) (kind target : Int) (pk pt : Nat) (w : World) {U : View} (hU : See U w) (hl : iM OpR 3 U a l) (hk : U ⟨pk, 0, none⟩ = some (.int .i64 kind)) (ht : U ⟨pt, 0, none⟩ = some (.int .i64 target)) :
    CP 126 #[.slice a l.length c, .func (.func 165) #[] #[.pointer (some ⟨pk, 0, none⟩), .pointer (some ⟨pt, 0, none⟩)]] w (Ret (.int .i64 (aBH kind target 0 l)) w) := by
 have hlen := hl.len
 unfold R47 at hlen
 refine eG 19 Tryz.func126 hU ?_
 refine zQ 1 (zn (zs (zQ 3 (zn (aB (gX (α := Nat) (fun x => [0,1,4,7,8].zip [(.slice a l.length c),(.func (.func 165) #[] #[(Pt pk 0),(Pt pt 0)]),(I6 0),(L6 l.length),(L6 x)]) (fun x => U) (fun x => []) (fun x => x ≤ l.length ∧ aBH kind target x (l.drop x) = aBH kind target 0 l) (fun x => l.length - x) 0 ?_ ?_))))))
 · exact ⟨Nat.zero_le _,rfl⟩
 intro x hx
 obtain ⟨hx1,hx2⟩ := hx
 refine zQ 1 (zn (zs (cD (decide ((x : Int) < (l.length : Int))) (fun h0 => ?_) (fun h0 => ?_))))
 ·
  have h0d := of_decide_eq_true h0
  refine zk (zs (aB (zQ 2 (zn (zQ 3 ?_)))))
  obtain ⟨y0,hy0⟩ : ∃ y,(l)[x]? = some y := ⟨(l)[x]'oW,List.getElem?_eq_getElem _⟩
  obtain ⟨b0,f0,cs0,rfl,hU0,hR0⟩ := hl.at_ x y0 hy0
  obtain rfl := hR0
  refine cH (Pt b0 (f0 + x * 3)) (rIx 153 rfl b0 f0 l.length c x 3) ?_
  refine zU b0 (f0 + x * 3) [(I6 y0.k),(I6 y0.n),(I6 y0.t)] hU0 153 (.tmp 14) _ Tryz.underlying153 rfl ?_
  refine dL (fun W hM => aHH y0 kind target pk pt W hM.view hk ht) (zn (cD (y0.k == kind && y0.t == target) (fun h1 => ?_) (fun h1 => ?_)))
  ·
   refine zQ 2 (zn (aA (aH [4] [(L6 x)] (fun W' hM => ?_))))
   refine ⟨?_,hM.below⟩
   rw [← hx2,aCG hy0,if_pos h1]
   rfl
  ·
   refine zk (zr (zq 1 (eV 18 ((x : Int) + 1) (zq 1 (zn ?_)))))
   refine nx (x + 1) ?_ ?_
   · exact ⟨by omega,by rw [← hx2,aCG hy0,h1]; rfl⟩
   · show l.length - (x + 1) < l.length - x; omega
 ·
  have h0d := of_decide_eq_false h0
  refine aU (zQ 1 (zn (aA (aH [4] [(I6 (-1))] (fun W' hM => ?_)))))
  refine ⟨?_,hM.below⟩
  rw [← hx2,cY oW]
  rfl
theorem aJZ (l : List Op) (a : Option Addr) (c : Nat) (kind target : Int) (pk pt : Nat) (w : World) {U : View} (hU : See U w) (hl : iM OpR 3 U a l) (hk : U ⟨pk, 0, none⟩ = some (.int .i64 kind)) (ht : U ⟨pt, 0, none⟩ = some (.int .i64 target)) :
    CP 164 #[.slice a l.length c, .func (.func 165) #[] #[.pointer (some ⟨pk, 0, none⟩), .pointer (some ⟨pt, 0, none⟩)]] w (Ret (.bool (eK l kind target)) w) := by
 refine eG 9 Tryz.func164 hU ?_
 refine zQ 1 (zn (zQ 2 (dA 126 #[(.slice a l.length c),(.func (.func 165) #[] #[(Pt pk 0),(Pt pt 0)])] (I6 (aBH kind target 0 l)) (fun W hM => aJY l _ _ kind target pk pt W hM.view hl hk ht) ?_)))
 refine zq 2 (zn (aA (aH [4] [(.bool (decide ((aBH kind target 0 l) ≥ 0)))] (fun W' hM => ?_))))
 exact ⟨by rw [← aEz kind target 0 l]; rfl,hM.below⟩
theorem aEy (l : List Op) (a : Option Addr) (c : Nat) (kind target : Int) (w : World) {U : View} (hU : See U w) (hl : iM OpR 3 U a l) : CP 125 #[.slice a l.length c, .int .i64 kind, .int .i64 target] w (Ret (.bool (eK l kind target)) w) := by
 refine eG 10 Tryz.func125 hU ?_
 refine zs (zr (cJ (fun b0 => (cJ (fun b1 => (zq 1 (zn (zQ 2 ?_))))))))
 refine iE [] [(bK b1 [(I6 target)] 3)] b0 [(I6 kind)] 3 kR (fun V2 hV2 hR2 => ?_)
 have k3 := hl.le hV2
 refine iE [] [] b1 [(I6 target)] 3 kR (fun V4 hV4 hR4 => ?_)
 have k5 := k3.le hV4
 refine dA 164 #[(.slice a l.length c),(.func (.func 165) #[] #[(Pt b0 0),(Pt b1 0)])] (.bool (eK l kind target)) (fun W hM => aJZ l _ _ kind target b0 b1 W hM.view k5 ((View.range_le hV4 hR2) 0 _ rfl) (hR4 0 _ rfl)) ?_
 refine zq 1 (zn (aA (jJ 6)))
theorem aFV (x : Bk) (w : World) : CP 167 #[x.V] w (Ret (.bool (sF x)) w) := by
 refine dK 11 Tryz.func167 ?_
 refine zs (zr (cJ (fun b0 => (zq 1 (zn (zB [0,1,0,0] [(b0,1)] (aK 6 (x.t == 11) (fun h0 => ?_) (fun h0 => ?_))))))))
 ·
  refine zq 5 (zn (aA (aH [2] [(.bool true)] (fun W' hM => ?_))))
  exact ⟨by simp only [cG,sF,h0,bs,bQ,reduceIte],hM.below⟩
 ·
  refine cU [0,1,0,0,0] [(b0,1)] (zn (aA (aH [2] [(.bool (x.t == 12))] (fun W' hM => ?_))))
  exact ⟨by simp only [cG,sF,h0,bs,bQ,reduceIte],hM.below⟩
theorem aBB (x : Bk) (w : World) : CP 168 #[x.V] w (Ret (.bool (lA x)) w) := by
 refine dK 16 Tryz.func168 ?_
 refine zs (zr (cJ (fun b0 => (zq 1 (zn (zB [0,1,0,0] [(b0,1)] (aK 6 (x.t == 6) (fun h0 => ?_) (fun h0 => ?_))))))))
 ·
  refine zq 10 (zn (aA (aH [2] [(.bool true)] (fun W' hM => ?_))))
  exact ⟨by simp only [cG,lA,h0,bs,bQ,reduceIte],hM.below⟩
 ·
  refine cU [0,1,0,0,0] [(b0,1)] (aK 11 (x.t == 7) (fun h1 => ?_) (fun h1 => ?_))
  ·
   refine zq 5 (zn (aA (aH [2] [(.bool true)] (fun W' hM => ?_))))
   exact ⟨by simp only [cG,lA,h0,h1,bs,bQ,reduceIte],hM.below⟩
  ·
   refine cU [0,1,0,0,0] [(b0,1)] (zn (aA (aH [2] [(.bool (x.t == 10))] (fun W' hM => ?_))))
   exact ⟨by simp only [cG,lA,h0,h1,bs,bQ,reduceIte],hM.below⟩
def aAX : Nat → List Bk → Int
 | _, [] => -1
 | i, x :: r => if sF x then (i : Int) else aAX (i + 1) r
theorem aB3 {l : List Bk} {i : Nat} {y : Bk} (h : l[i]? = some y) : aAX i (l.drop i) = if sF y then (i : Int) else aAX (i + 1) (l.drop (i + 1)) := by
 rw [cK h, aAX]
theorem aDA : ∀ (i : Nat) (l : List Bk), decide (aAX i l ≥ 0) = l.any sF
 | _, [] => rfl
 | i, x :: r => by
  rw [aAX, List.any_cons]
  cases sF x with
  | true => simp
  | false => simpa using aDA (i + 1) r
theorem aIk (l : List Bk) (a : Option Addr) (c : Nat) (w : World) {U : View} (hU : See U w) (hl : cX U a l) : CP 67 #[.slice a l.length c, .func (.func 167) #[] #[]] w (Ret (.int .i64 (aAX 0 l)) w) := by
 have hlen := hl.len
 unfold R47 at hlen
 refine eG 19 Tryz.func67 hU ?_
 refine zQ 1 (zn (zs (zQ 3 (zn (aB (gX (α := Nat) (fun x => [0,1,4,7,8].zip [(.slice a l.length c),(.func (.func 167) #[] #[]),(I6 0),(L6 l.length),(L6 x)]) (fun x => U) (fun x => []) (fun x => x ≤ l.length ∧ aAX x (l.drop x) = aAX 0 l) (fun x => l.length - x) 0 ?_ ?_))))))
 · exact ⟨Nat.zero_le _,rfl⟩
 intro x hx
 obtain ⟨hx1,hx2⟩ := hx
 refine zQ 1 (zn (zs (cD (decide ((x : Int) < (l.length : Int))) (fun h0 => ?_) (fun h0 => ?_))))
 ·
  have h0d := of_decide_eq_true h0
  refine zk (zs (aB (zQ 2 (zn (zQ 3 ?_)))))
  obtain ⟨y0,hy0⟩ : ∃ y,(l)[x]? = some y := ⟨(l)[x]'oW,List.getElem?_eq_getElem _⟩
  obtain ⟨b0,f0,rfl,hU0⟩ := hl.at_ x y0 hy0
  refine cH (Pt b0 (f0 + x * 5)) (rIx 38 rfl b0 f0 l.length c x 5) ?_
  refine zU b0 (f0 + x * 5) y0.cs hU0 38 (.tmp 14) _ Tryz.underlying38 rfl ?_
  refine dL (fun W hM => aFV y0 W) (zn (cD (sF y0) (fun h1 => ?_) (fun h1 => ?_)))
  ·
   refine zQ 2 (zn (aA (aH [4] [(L6 x)] (fun W' hM => ?_))))
   refine ⟨?_,hM.below⟩
   rw [← hx2,aB3 hy0,if_pos h1]
   rfl
  ·
   refine zk (zr (zq 1 (eV 18 ((x : Int) + 1) (zq 1 (zn ?_)))))
   refine nx (x + 1) ?_ ?_
   · exact ⟨by omega,by rw [← hx2,aB3 hy0,h1]; rfl⟩
   · show l.length - (x + 1) < l.length - x; omega
 ·
  have h0d := of_decide_eq_false h0
  refine aU (zQ 1 (zn (aA (aH [4] [(I6 (-1))] (fun W' hM => ?_)))))
  refine ⟨?_,hM.below⟩
  rw [← hx2,cY oW]
  rfl
theorem aIl (l : List Bk) (a : Option Addr) (c : Nat) (w : World) {U : View} (hU : See U w) (hl : cX U a l) : CP 166 #[.slice a l.length c, .func (.func 167) #[] #[]] w (Ret (.bool (l.any sF)) w) := by
 refine eG 9 Tryz.func166 hU ?_
 refine zQ 1 (zn (zQ 2 (dA 67 #[(.slice a l.length c),(.func (.func 167) #[] #[])] (I6 (aAX 0 l)) (fun W hM => aIk l _ _ W hM.view hl) ?_)))
 refine zq 2 (zn (aA (aH [4] [(.bool (decide ((aAX 0 l) ≥ 0)))] (fun W' hM => ?_))))
 exact ⟨by rw [← aDA 0 l]; rfl,hM.below⟩
theorem aHR (p : Pr) (l : List Bk) (a : Option Addr) (c : Nat) (q : List Op) (aQ : Option Addr) (cQ : Nat) (w : World) {U : View} (hU : See U w) (hl : cX U a l) (hq : iM OpR 3 U aQ q) : CP 127 #[bnV p a l.length c, .slice aQ q.length cQ] w (Ret (.bool (mK p l)) w) := by
 refine eG 16 Tryz.func127 hU ?_
 refine zs (zr (cJ (fun b0 => (zq 1 (zn (zB [0,0,1,0,0,0] [(b0,1)] (aK 10 ((gC .u64 (p.f : Int) 1) == 0) (fun h0 => ?_) (fun h0 => ?_))))))))
 ·
  refine zq 6 (zn (aA (aH [4] [(.bool true)] (fun W' hM => ?_))))
  exact ⟨by simp only [cG,mK,h0,bs,bQ,reduceIte],hM.below⟩
 ·
  refine cU [0,1] [(b0,1)] (dA 166 #[(.slice a l.length c),(.func (.func 167) #[] #[])] (.bool (l.any sF)) (fun W hM => aIl l _ _ W hM.view hl) ?_)
  refine zq 3 (zn (aA (aH [4] [(.bool (!(l.any sF)))] (fun W' hM => ?_))))
  exact ⟨by simp only [cG,mK,h0,bs,bQ,reduceIte],hM.below⟩
theorem aHX (p : Pr) (l : List Bk) (a : Option Addr) (c : Nat) (q : List Op) (aQ : Option Addr) (cQ : Nat) (w : World) {U : View} (hU : See U w) (hl : cX U a l) (hq : iM OpR 3 U aQ q) : CP 128 #[bnV p a l.length c, .slice aQ q.length cQ] w (Ret (.bool (oY l q)) w) := by
 have hlen := hq.len
 unfold R47 at hlen
 refine eG 30 Tryz.func128 hU ?_
 refine zs (zr (cJ (fun b0 => (zq 1 (zn (zs (zQ 3 (zn (aB (gX (α := Nat) (fun x => [2,4,9,10,11].zip [(Pt b0 0),(.bool false),(.slice aQ q.length cQ),(L6 q.length),(L6 x)]) (fun x => U) (fun x => [(bK b0 (eB p a l.length c) 29)]) (fun x => x ≤ q.length ∧ (q.drop x).all (qY l) = q.all (qY l)) (fun x => q.length - x) 0 ?_ ?_))))))))))
 · exact ⟨Nat.zero_le _,rfl⟩
 intro x hx
 obtain ⟨hx1,hx2⟩ := hx
 refine zQ 1 (zn (zs (cD (decide ((x : Int) < (q.length : Int))) (fun h0 => ?_) (fun h0 => ?_))))
 ·
  have h0d := of_decide_eq_true h0
  refine zk (zs (aB (zs (zr ?_))))
  obtain ⟨y1,hy1⟩ : ∃ y,(q)[x]? = some y := ⟨(q)[x]'oW,List.getElem?_eq_getElem _⟩
  obtain ⟨b1,f1,cs1,rfl,hU1,hR1⟩ := hq.at_ x y1 hy1
  obtain rfl := hR1
  refine cH (Pt b1 (f1 + x * 3)) (rIx 153 rfl b1 f1 q.length cQ x 3) ?_
  refine zU b1 (f1 + x * 3) [(I6 y1.k),(I6 y1.n),(I6 y1.t)] hU1 153 (.tmp 13) _ Tryz.underlying153 rfl ?_
  refine cJ (fun b2 => (aY 1 b2 (zn (zB [1,0,2] [(b0,20),(b2,1)] (dA 64 #[(bnV p a l.length c),(I6 y1.t)] (.tuple #[(.agg #[(I6 (aJ l y1.t).1.t),(I6 (aJ l y1.t).1.n),(N6 (aJ l y1.t).1.f),(I6 (aJ l y1.t).1.c),(St (aJ l y1.t).1.d)]),(.bool (aJ l y1.t).2)]) (fun W hM => lB p l _ _ y1.t W hM.view hl) ?_)))))
  refine zq 3 (cJ (fun b3 => (aY 2 b3 (zq 1 (zn (zQ 3 (aK 24 (!(aJ l y1.t).2) (fun h1 => ?_) (fun h1 => ?_))))))))
  ·
   refine cU [0,2,0,0] [(b2,1)] (zn (cD (y1.t != 0) (fun h2 => ?_) (fun h2 => ?_)))
   ·
    have h2d := bne_iff_ne.1 h2
    refine zQ 1 (zn (aA (aH [4] [(.bool false)] (fun W' hM => ?_))))
    refine ⟨?_,hM.below⟩
    unfold oY
    show _ = Ending.returned (Value.bool (q.all (qY l)))
    rw [← hx2,cK hy1,List.all_cons]
    simp only [Bool.not_eq_true',Bool.not_eq_false'] at h1
    show Ending.returned (Value.bool false) = _
    simp [qY,h1,h2d]
   ·
    have h2d := bne_eq_false_iff_eq.1 h2
    refine zk (zr (zq 1 (eV 29 ((x : Int) + 1) (zq 1 (zn ?_)))))
    refine nx (x + 1) ?_ ?_ (d := fun _ h => Mem.sub (List.sublist_append_left _ _) (h.eqv (show _ = ([(bK b0 (eB p a l.length c) 29)] : aF) ++ ([(bK b2 [(I6 y1.k),(I6 y1.n),(I6 y1.t)] 153),(bK b3 [(I6 (aJ l y1.t).1.t),(I6 (aJ l y1.t).1.n),(N6 (aJ l y1.t).1.f),(I6 (aJ l y1.t).1.c),(St (aJ l y1.t).1.d)] 38)] : aF) from by kernel_rfl)))
    · exact ⟨by omega,by simp only [Bool.not_eq_true',Bool.not_eq_false'] at h1; rw [← hx2,cK hy1,List.all_cons]; simp [qY,h1,h2d]⟩
    · show q.length - (x + 1) < q.length - x; omega
  ·
   refine zq 4 (zn (dE (zk (zr (zq 1 (eV 29 ((x : Int) + 1) (zq 1 (zn ?_))))))))
   refine nx (x + 1) ?_ ?_ (d := fun _ h => Mem.sub (List.sublist_append_left _ _) (h.eqv (show _ = ([(bK b0 (eB p a l.length c) 29)] : aF) ++ ([(bK b2 [(I6 y1.k),(I6 y1.n),(I6 y1.t)] 153),(bK b3 [(I6 (aJ l y1.t).1.t),(I6 (aJ l y1.t).1.n),(N6 (aJ l y1.t).1.f),(I6 (aJ l y1.t).1.c),(St (aJ l y1.t).1.d)] 38)] : aF) from by kernel_rfl)))
   · exact ⟨by omega,by simp only [Bool.not_eq_true',Bool.not_eq_false'] at h1; rw [← hx2,cK hy1,List.all_cons]; simp [qY,h1]⟩
   · show q.length - (x + 1) < q.length - x; omega
 ·
  have h0d := of_decide_eq_false h0
  refine aU (zQ 1 (zn (aA (aH [4] [(.bool true)] (fun W' hM => ?_)))))
  refine ⟨?_,hM.below⟩
  unfold oY
  show _ = Ending.returned (Value.bool (q.all (qY l)))
  rw [← hx2,cY oW]
  rfl
theorem aIj (p : Pr) (l : List Bk) (a : Option Addr) (c : Nat) (q : List Op) (aQ : Option Addr) (cQ : Nat) (w : World) {U : View} (hU : See U w) (hl : cX U a l) (hq : iM OpR 3 U aQ q) : CP 131 #[bnV p a l.length c, .slice aQ q.length cQ] w (Ret (.bool (pM l q)) w) := by
 have hlen := hq.len
 unfold R47 at hlen
 refine eG 43 Tryz.func131 hU ?_
 refine zs (zr (cJ (fun b0 => (zq 1 (zn (zs (zQ 3 (zn (aB (gX (α := Nat) (fun x => [1,2,4,9,10,11].zip [(.slice aQ q.length cQ),(Pt b0 0),(.bool false),(.slice aQ q.length cQ),(L6 q.length),(L6 x)]) (fun x => U) (fun x => [(bK b0 (eB p a l.length c) 29)]) (fun x => x ≤ q.length ∧ (q.drop x).all (sD l q) = q.all (sD l q)) (fun x => q.length - x) 0 ?_ ?_))))))))))
 · exact ⟨Nat.zero_le _,rfl⟩
 intro x hx
 obtain ⟨hx1,hx2⟩ := hx
 refine zQ 1 (zn (zs (cD (decide ((x : Int) < (q.length : Int))) (fun h0 => ?_) (fun h0 => ?_))))
 ·
  have h0d := of_decide_eq_true h0
  refine zk (zs (aB (zs (zr ?_))))
  obtain ⟨y1,hy1⟩ : ∃ y,(q)[x]? = some y := ⟨(q)[x]'oW,List.getElem?_eq_getElem _⟩
  obtain ⟨b1,f1,cs1,rfl,hU1,hR1⟩ := hq.at_ x y1 hy1
  obtain rfl := hR1
  refine cH (Pt b1 (f1 + x * 3)) (rIx 153 rfl b1 f1 q.length cQ x 3) ?_
  refine zU b1 (f1 + x * 3) [(I6 y1.k),(I6 y1.n),(I6 y1.t)] hU1 153 (.tmp 13) _ Tryz.underlying153 rfl ?_
  refine cJ (fun b2 => (aY 1 b2 (zn (zs (zB [0,2,0,0] [(b2,1)] (aK 18 (y1.k != 1) (fun h1 => ?_) (fun h1 => ?_)))))))
  ·
   have h1d := bne_iff_ne.1 h1
   refine zq 4 (zn (dF (aU (zr (zq 1 (eV 42 ((x : Int) + 1) (zq 1 (zn ?_))))))))
   refine nx (x + 1) ?_ ?_ (d := fun _ h => Mem.sub (List.sublist_append_left _ _) (h.eqv (show _ = ([(bK b0 (eB p a l.length c) 29)] : aF) ++ ([(bK b2 [(I6 y1.k),(I6 y1.n),(I6 y1.t)] 153)] : aF) from by kernel_rfl)))
   · exact ⟨by omega,by rw [← hx2,cK hy1,List.all_cons]; simp [sD,h1d]⟩
   · show q.length - (x + 1) < q.length - x; omega
  ·
   have h1d := bne_eq_false_iff_eq.1 h1
   refine cU [0,2,0,0] [(b2,1)] (zn (cD (y1.t == 0) (fun h2 => ?_) (fun h2 => ?_)))
   ·
    have h2d := eq_of_beq h2
    refine aU (zr (zq 1 (eV 42 ((x : Int) + 1) (zq 1 (zn ?_)))))
    refine nx (x + 1) ?_ ?_ (d := fun _ h => Mem.sub (List.sublist_append_left _ _) (h.eqv (show _ = ([(bK b0 (eB p a l.length c) 29)] : aF) ++ ([(bK b2 [(I6 y1.k),(I6 y1.n),(I6 y1.t)] 153)] : aF) from by kernel_rfl)))
    · exact ⟨by omega,by rw [← hx2,cK hy1,List.all_cons]; simp [sD,h1d,h2d]⟩
    · show q.length - (x + 1) < q.length - x; omega
   ·
    have h2d := beq_eq_false_iff_ne.1 h2
    refine zk (zB [1,0,2] [(b0,20),(b2,1)] (dA 64 #[(bnV p a l.length c),(I6 y1.t)] (.tuple #[(.agg #[(I6 (aJ l y1.t).1.t),(I6 (aJ l y1.t).1.n),(N6 (aJ l y1.t).1.f),(I6 (aJ l y1.t).1.c),(St (aJ l y1.t).1.d)]),(.bool (aJ l y1.t).2)]) (fun W hM => lB p l _ _ y1.t W hM.view hl) ?_))
    refine zq 3 (cJ (fun b3 => (aY 2 b3 (zq 1 (zn (zB [3] [(b3,5)] (dL (fun W hM => aFV (aJ l y1.t).1 W) (zq 1 (aK 32 (sF (aJ l y1.t).1) (fun h3 => ?_) (fun h3 => ?_))))))))))
    ·
     refine zq 9 (zn (dF (zQ 1 (zn (aA (aH [4] [(.bool false)] (fun W' hM => ?_)))))))
     refine ⟨?_,hM.below⟩
     unfold pM
     rw [← hx2,cK hy1,List.all_cons]
     show Ending.returned (Value.bool false) = _
     simp [sD,h1d,h2d,h3]
    ·
     refine cU [3] [(b3,5)] (dL (fun W hM => aBB (aJ l y1.t).1 W) (zq 2 (aK 36 (lA (aJ l y1.t).1) (fun h4 => ?_) (fun h4 => ?_))))
     ·
      refine zq 5 (zn (dF (zQ 1 (zn (aA (aH [4] [(.bool false)] (fun W' hM => ?_)))))))
      refine ⟨?_,hM.below⟩
      unfold pM
      rw [← hx2,cK hy1,List.all_cons]
      show Ending.returned (Value.bool false) = _
      simp [sD,h1d,h2d,h3,h4]
     ·
      refine cU [0,0,2] [(b2,1)] (dA 125 #[(Sl b1 f1 q.length cQ),(I6 2),(I6 y1.t)] (.bool (eK q 2 y1.t)) (fun W hM => aEy q _ _ 2 y1.t W hM.view hq) ?_)
      refine zq 1 (zn (cD (eK q 2 y1.t) (fun h5 => ?_) (fun h5 => ?_)))
      ·
       refine zQ 1 (zn (aA (aH [4] [(.bool false)] (fun W' hM => ?_))))
       refine ⟨?_,hM.below⟩
       unfold pM
       rw [← hx2,cK hy1,List.all_cons]
       show Ending.returned (Value.bool false) = _
       simp [sD,h1d,h2d,h3,h4,h5]
      ·
       refine zk (zr (zq 1 (eV 42 ((x : Int) + 1) (zq 1 (zn ?_)))))
       refine nx (x + 1) ?_ ?_ (d := fun _ h => Mem.sub (List.sublist_append_left _ _) (h.eqv (show _ = ([(bK b0 (eB p a l.length c) 29)] : aF) ++ ([(bK b2 [(I6 y1.k),(I6 y1.n),(I6 y1.t)] 153),(bK b3 [(I6 (aJ l y1.t).1.t),(I6 (aJ l y1.t).1.n),(N6 (aJ l y1.t).1.f),(I6 (aJ l y1.t).1.c),(St (aJ l y1.t).1.d)] 38)] : aF) from by kernel_rfl)))
       · exact ⟨by omega,by rw [← hx2,cK hy1,List.all_cons]; simp [sD,h1d,h2d,h3,h4,h5]⟩
       · show q.length - (x + 1) < q.length - x; omega
 ·
  have h0d := of_decide_eq_false h0
  refine aU (zQ 1 (zn (aA (aH [4] [(.bool true)] (fun W' hM => ?_)))))
  refine ⟨?_,hM.below⟩
  unfold pM
  rw [← hx2,cY oW]
  rfl
def qA (l : List Bk) (m : List (Int × Int)) (o : Op) : Bool := decide (fE o.n m > 0) || o.t == 0 || (aJ l o.t).1.t == 12 || lA (aJ l o.t).1
def pO (l : List Bk) : List (Int × Int) → List Op → Bool
 | _, [] => true
 | m, o :: r => if o.k != 2 then pO l m r else if qA l m o then false else pO l (bump o.n m) r
theorem iQ {l : List Bk} {q : List Op} {i : Nat} {y : Op} {m : List (Int × Int)} (h : q[i]? = some y) : pO l m (q.drop i) = if y.k != 2 then pO l m (q.drop (i + 1)) else if qA l m y then false else pO l (bump y.n m) (q.drop (i + 1)) := by
 rw [cK h, pO]
theorem aAY (l : List Bk) : ∀ (r pre : List Op) (m : List (Int × Int)), (∀ n, fE n m = if pre.any (fun q => q.k == 2 && q.n == n) then 1 else 0) → pO l m r = pA l pre r
 | [], _, _, _ => rfl
 | o :: r, pre, m, h => by
  rw [pO, pA]
  by_cases hk : (o.k != 2) = true
  ·
   rw [if_pos hk, if_pos hk]
   refine aAY l r (pre ++ [o]) m fun n => ?_
   rw [h n, List.any_append]
   have : (o.k == 2) = false := by simpa using hk
   simp [this]
  ·
   rw [if_neg hk, if_neg hk]
   have hg : decide (fE o.n m > 0) = pre.any (fun q => q.k == 2 && q.n == o.n) := by
    rw [h o.n]
    cases pre.any (fun q => q.k == 2 && q.n == o.n) <;> rfl
   unfold qA
   rw [hg]
   split
   · rfl
   ·
    next hb =>
    refine aAY l r (pre ++ [o]) _ fun n => ?_
    have ha : pre.any (fun q => q.k == 2 && q.n == o.n) = false := by
     cases hx : pre.any (fun q => q.k == 2 && q.n == o.n) with
     | false => rfl
     | true => rw [hx] at hb; simp at hb
    have h0 : fE o.n m = 0 := by rw [h o.n, ha]; rfl
    have hk2 : (o.k == 2) = true := by simpa using hk
    unfold bump
    rw [sP, h0, List.any_append, h n]
    by_cases hn : n = o.n
    ·
     subst hn
     simp [ha, hk2]
     rfl
    ·
     have h1 : (n == o.n) = false := beq_eq_false_iff_ne.2 hn
     have h2 : (o.n == n) = false := beq_eq_false_iff_ne.2 (fun e => hn e.symm)
     simp [h1, h2]
theorem aIn (p : Pr) (l : List Bk) (a : Option Addr) (c : Nat) (q : List Op) (aQ : Option Addr) (cQ : Nat) (w : World) {U : View} (hU : See U w) (hl : cX U a l) (hq : iM OpR 3 U aQ q) : CP 130 #[bnV p a l.length c, .slice aQ q.length cQ] w (Ret (.bool (pA l [] q)) w) := by
 have hlen := hq.len
 unfold R47 at hlen
 rw [← aAY l q [] [] (fun n => rfl)]
 refine eG 52 Tryz.func130 hU ?_
 refine zs (zr (cJ (fun b0 => (zq 1 (zn (zs (zr (cJ (fun b1 => (zq 1 (zn (zs (zQ 3 (zn (aB (gX (α := Nat × List (Int × Int)) (fun x => [2,4,5,11,12,13].zip [(Pt b0 0),(.bool false),(.map (some b1)),(.slice aQ q.length cQ),(L6 q.length),(L6 x.1)]) (fun x => U) (fun x => [(bK b0 (eB p a l.length c) 29),(b1,(mO sU x.2))]) (fun x => x.1 ≤ q.length ∧ pO l x.2 (q.drop x.1) = pO l [] q) (fun x => q.length - x.1) (0,[]) ?_ ?_))))))))))))))))
 · exact ⟨Nat.zero_le _,rfl⟩
 intro x hx
 obtain ⟨hx1,hx2⟩ := hx
 refine zQ 1 (zn (zs (cD (decide ((x.1 : Int) < (q.length : Int))) (fun h0 => ?_) (fun h0 => ?_))))
 ·
  have h0d := of_decide_eq_true h0
  refine zk (zs (aB (zs (zr ?_))))
  obtain ⟨y2,hy2⟩ : ∃ y,(q)[x.1]? = some y := ⟨(q)[x.1]'oW,List.getElem?_eq_getElem _⟩
  obtain ⟨b2,f2,cs2,rfl,hU2,hR2⟩ := hq.at_ x.1 y2 hy2
  obtain rfl := hR2
  refine cH (Pt b2 (f2 + x.1 * 3)) (rIx 153 rfl b2 f2 q.length cQ x.1 3) ?_
  refine zU b2 (f2 + x.1 * 3) [(I6 y2.k),(I6 y2.n),(I6 y2.t)] hU2 153 (.tmp 15) _ Tryz.underlying153 rfl ?_
  refine cJ (fun b3 => (aY 2 b3 (zn (zs (zB [0,3,0] [(b3,1)] (zn (cD (y2.k != 2) (fun h1 => ?_) (fun h1 => ?_))))))))
  ·
   have h1d := bne_iff_ne.1 h1
   refine aU (zr (zq 1 (eV 51 ((x.1 : Int) + 1) (zq 1 (zn ?_)))))
   refine nx (x.1 + 1,x.2) ?_ ?_ (d := fun _ h => Mem.sub (List.sublist_append_left _ _) (h.eqv (show _ = ([(bK b0 (eB p a l.length c) 29),(b1,(mO sU x.2))] : aF) ++ ([(bK b3 [(I6 y2.k),(I6 y2.n),(I6 y2.t)] 153)] : aF) from by kernel_rfl)))
   · exact ⟨by show x.1 + 1 ≤ _; omega,by show pO l x.2 (q.drop (x.1 + 1)) = _; rw [← hx2,iQ hy2,if_pos h1]⟩
   · show q.length - (x.1 + 1) < q.length - x.1; omega
  ·
   have h1d := bne_eq_false_iff_eq.1 h1
   refine zk (zB [1,0,3] [(b0,20),(b3,1)] (dA 64 #[(bnV p a l.length c),(I6 y2.t)] (.tuple #[(.agg #[(I6 (aJ l y2.t).1.t),(I6 (aJ l y2.t).1.n),(N6 (aJ l y2.t).1.f),(I6 (aJ l y2.t).1.c),(St (aJ l y2.t).1.d)]),(.bool (aJ l y2.t).2)]) (fun W hM => lB p l _ _ y2.t W hM.view hl) ?_))
   refine zq 3 (cJ (fun b4 => (aY 3 b4 (zq 1 (zn (zs (zB [0,0,3] [(b3,1)] ?_)))))))
   refine mE aAA 1 b1 x.2 y2.n (.tmp 27) (.tmp 29) rfl kR kR kR kR kR ?_
   refine zq 2 (aK 32 (decide ((fE y2.n x.2) > 0)) (fun h2 => ?_) (fun h2 => ?_))
   ·
    have h2d := of_decide_eq_true h2
    refine zq 13 (zn (dF (zQ 1 (zn (aA (aH [4] [(.bool false)] (fun W' hM => ?_)))))))
    refine ⟨?_,hM.below⟩
    rw [← hx2,iQ hy2,if_neg (by rw [h1]; exact Bool.false_ne_true),if_pos (by unfold qA; simp [h1d,h2])]
    rfl
   ·
    have h2d := of_decide_eq_false h2
    refine cU [0,3,0,0,0] [(b3,1)] (aK 37 (y2.t == 0) (fun h3 => ?_) (fun h3 => ?_))
    ·
     have h3d := eq_of_beq h3
     refine zq 8 (zn (dF (zQ 1 (zn (aA (aH [4] [(.bool false)] (fun W' hM => ?_)))))))
     refine ⟨?_,hM.below⟩
     rw [← hx2,iQ hy2,if_neg (by rw [h1]; exact Bool.false_ne_true),if_pos (by unfold qA; simp [h1d,h2,h3d])]
     rfl
    ·
     have h3d := beq_eq_false_iff_ne.1 h3
     refine cU [0,4,0,0,0] [(b4,1)] (aK 42 ((aJ l y2.t).1.t == 12) (fun h4 => ?_) (fun h4 => ?_))
     ·
      have h4d := eq_of_beq h4
      refine zq 3 (zn (dF (zQ 1 (zn (aA (aH [4] [(.bool false)] (fun W' hM => ?_)))))))
      refine ⟨?_,hM.below⟩
      rw [← hx2,iQ hy2,if_neg (by rw [h1]; exact Bool.false_ne_true),if_pos (by unfold qA; simp [h1d,h2,h3d,h4d])]
      rfl
     ·
      have h4d := beq_eq_false_iff_ne.1 h4
      refine cU [4] [(b4,5)] (dL (fun W hM => aBB (aJ l y2.t).1 W) (zq 1 (zn (cD (lA (aJ l y2.t).1) (fun h5 => ?_) (fun h5 => ?_)))))
      ·
       refine zQ 1 (zn (aA (aH [4] [(.bool false)] (fun W' hM => ?_))))
       refine ⟨?_,hM.below⟩
       rw [← hx2,iQ hy2,if_neg (by rw [h1]; exact Bool.false_ne_true),if_pos (by unfold qA; simp [h1d,h2,h3d,h4d,h5])]
       rfl
      ·
       refine zk (zr (cU [0,0,3] [(b3,1)] ?_))
       refine mE aAA 1 b1 x.2 y2.n (.tmp 46) (.tmp 48) rfl kR kR kR kR kR ?_
       refine zq 1 ?_
       refine aEM aAA 1 b1 x.2 y2.n (IntKind.i64.wrap ((fE y2.n x.2) + 1)) (.tmp 46) (.tmp 48) (.tmp 50) rfl kR kR kR kR kR kR ?_
       refine zn (zr (zq 1 (eV 51 ((x.1 : Int) + 1) (zq 1 (zn ?_)))))
       refine nx (x.1 + 1,(lX y2.n (IntKind.i64.wrap ((fE y2.n x.2) + 1)) x.2)) ?_ ?_ (d := fun _ h => Mem.sub (List.sublist_append_left _ _) (h.eqv (show _ = ([(bK b0 (eB p a l.length c) 29),(b1,(mO sU (lX y2.n (IntKind.i64.wrap ((fE y2.n x.2) + 1)) x.2)))] : aF) ++ ([(bK b3 [(I6 y2.k),(I6 y2.n),(I6 y2.t)] 153),(bK b4 [(I6 (aJ l y2.t).1.t),(I6 (aJ l y2.t).1.n),(N6 (aJ l y2.t).1.f),(I6 (aJ l y2.t).1.c),(St (aJ l y2.t).1.d)] 38)] : aF) from by kernel_rfl)))
       · exact ⟨by show x.1 + 1 ≤ _; omega,by rw [← hx2,iQ hy2,if_neg (by rw [h1]; exact Bool.false_ne_true)]; rw [if_neg (by unfold qA; simp [h1d,h2,h3d,h4d,h5])]; rfl⟩
       · show q.length - (x.1 + 1) < q.length - x.1; omega
 ·
  have h0d := of_decide_eq_false h0
  refine aU (zQ 1 (zn (aA (aH [4] [(.bool true)] (fun W' hM => ?_)))))
  refine ⟨?_,hM.below⟩
  rw [← hx2,cY oW]
  rfl
theorem oF {l : List Int} {i : Nat} {y : Int} (h : l[i]? = some y) : pK (l.take i) (l.drop i) = if (l.take i).contains y then true else pK (l.take (i + 1)) (l.drop (i + 1)) := by
 rw [cK h, pK, List.take_add_one, h]
 rfl
theorem aHe (p : Pr) (l : List Bk) (a : Option Addr) (c : Nat) (kind : Int) (ts : List Int) (aS : Option Addr) (cS : Nat) (w : World) {U : View} (hU : See U w) (hl : cX U a l) (ht : oD U aS ts) (hc : ts.length ≤ cS) : CP 81 #[bnV p a l.length c, .int .i64 kind, .slice aS ts.length cS] w (Ret (.int .i64 (fI l kind ts)) w) := by
 have hlen := ht.len
 unfold R47 at hlen
 have e0 : (ts.length == 0) = ((ts.length : Int) == 0) := by
  cases hz : ts.length == 0 with
  | true => rw [eq_of_beq hz]; rfl
  | false => exact (beq_eq_false_iff_ne.2 (by have := beq_eq_false_iff_ne.1 hz; omega)).symm
 refine eG 56 Tryz.func81 hU ?_
 refine zs (zr (cJ (fun b0 => (zq 1 (zn (zs (zQ 3 (aK 15 (kind != 1) (fun h0 => ?_) (fun h0 => ?_)))))))))
 ·
  have h0d := bne_iff_ne.1 h0
  refine zq 4 (aK 19 (kind != 2) (fun h1 => ?_) (fun h1 => ?_))
  ·
   refine zq 4 (zn (dF (zQ 1 (zn (aA (aH [6] [(I6 1)] (fun W' hM => ?_)))))))
   refine ⟨?_,hM.below⟩
   unfold fI
   rw [e0]
   simp only [h0,h1,bs,bQ,reduceIte]
   rfl
  ·
   have h1d := bne_eq_false_iff_eq.1 h1
   refine zq 4 (zn (cD ((ts.length : Int) == 0) (fun h2 => ?_) (fun h2 => ?_)))
   ·
    refine zQ 1 (zn (aA (aH [6] [(I6 1)] (fun W' hM => ?_))))
    refine ⟨?_,hM.below⟩
    unfold fI
    rw [e0]
    simp only [h0,h1,h2,bs,bQ,reduceIte]
    rfl
   ·
    have h2d := beq_eq_false_iff_ne.1 h2
    refine zk (zs (zQ 3 (zn (aB (gX (α := Nat) (fun x => [2,3,6,24,25,26].zip [(.slice aS ts.length cS),(Pt b0 0),(I6 0),(.slice aS ts.length cS),(L6 ts.length),(L6 x)]) (fun x => U) (fun x => [(bK b0 (eB p a l.length c) 29)]) (fun x => x ≤ ts.length ∧ pK (ts.take x) (ts.drop x) = pK [] ts) (fun x => ts.length - x) 0 ?_ ?_)))))
    · exact ⟨Nat.zero_le _,rfl⟩
    intro x hx
    obtain ⟨hx1,hx2⟩ := hx
    refine zQ 1 (zn (zs (cD (decide ((x : Int) < (ts.length : Int))) (fun h3 => ?_) (fun h3 => ?_))))
    ·
     have h3d := of_decide_eq_true h3
     refine zk (zs (aB (zQ 1 ?_)))
     obtain ⟨y1,hy1⟩ : ∃ y,(ts)[x]? = some y := ⟨(ts)[x]'oW,List.getElem?_eq_getElem _⟩
     obtain ⟨b1,f1,rfl,hU1⟩ := ht.one hy1
     refine cH (Pt b1 (f1 + x)) (fW _ 3 _ _ rfl b1 f1 ts.length cS x .i64 kR kR (by first | assumption | omega) kR kR) ?_
     refine zV b1 (f1 + x) (I6 y1) hU1 3 (.tmp 29) _ Tryz.underlying3 rfl ?_
     refine zq 2 (zn (zQ 2 (cH (Sl b1 f1 x cS) (gD 48 3 (.tmp 31) none (some (.tmp 32)) none rfl b1 f1 ts.length cS 0 x cS 1 x cS f1 kR eR eR eR (by decide) oW oW oW oW oW (by first | rfl | (split <;> omega)) Tryz.underlying48 kR) ?_)))
     refine zq 1 (dA 121 #[(Sl b1 f1 x cS),(I6 y1)] (.bool ((ts.take x).contains y1)) (fun W hM => (by have h := pW (ts.take x) _ cS y1 W hM.view (ht.take x); rwa [List.length_take,Nat.min_eq_left oW] at h)) ?_)
     refine zn (cD ((ts.take x).contains y1) (fun h4 => ?_) (fun h4 => ?_))
     ·
      refine zQ 1 (zn (aA (aH [6] [(I6 1)] (fun W' hM => ?_))))
      refine ⟨?_,hM.below⟩
      unfold fI
      rw [e0]
      rw [if_neg (by simp only [h0,h1,h2,bs,bQ,reduceIte]; exact not_false),if_pos (by rw [← hx2,oF hy1,if_pos h4])]
      rfl
     ·
      refine zk (zr (zq 1 (eV 36 ((x : Int) + 1) (zq 1 (zn ?_)))))
      refine nx (x + 1) ?_ ?_
      · exact ⟨by omega,by rw [← hx2,oF hy1,if_neg (by rw [h4]; exact Bool.false_ne_true)]⟩
      · show ts.length - (x + 1) < ts.length - x; omega
    ·
     have h3d := of_decide_eq_false h3
     refine aU (zs (zs (zr ?_)))
     have htw : pK [] ts = false := by rw [← hx2,cY oW]; rfl
     refine zq 3 (zn (aB (gX (α := Nat) (fun x2 => [3,6,37,38,39].zip [(Pt b0 0),(I6 0),(.slice aS ts.length cS),(L6 ts.length),(L6 x2)]) (fun x2 => U) (fun x2 => [(bK b0 (eB p a l.length c) 29)]) (fun x2 => x2 ≤ ts.length ∧ (ts.drop x2).all (fun t => (aJ l t).2 || t == 0) = ts.all (fun t => (aJ l t).2 || t == 0)) (fun x2 => ts.length - x2) 0 ?_ ?_)))
     · exact ⟨Nat.zero_le _,rfl⟩
     intro x2 hx2
     obtain ⟨hww1,hww2⟩ := hx2
     refine zQ 1 (zn (zs (cD (decide ((x2 : Int) < (ts.length : Int))) (fun h5 => ?_) (fun h5 => ?_))))
     ·
      have h5d := of_decide_eq_true h5
      refine zk (zs (aB (zs (zr ?_))))
      obtain ⟨y2,hy2⟩ : ∃ y,(ts)[x2]? = some y := ⟨(ts)[x2]'oW,List.getElem?_eq_getElem _⟩
      obtain ⟨b2,f2,rfl,hU2⟩ := ht.one hy2
      refine cH (Pt b2 (f2 + x2)) (fW _ 3 _ _ rfl b2 f2 ts.length cS x2 .i64 kR kR (by first | assumption | omega) kR kR) ?_
      refine zV b2 (f2 + x2) (I6 y2) hU2 3 (.tmp 41) _ Tryz.underlying3 rfl ?_
      refine zq 1 (zn (zB [1,0] [(b0,20)] (dA 64 #[(bnV p a l.length c),(I6 y2)] (.tuple #[(.agg #[(I6 (aJ l y2).1.t),(I6 (aJ l y2).1.n),(N6 (aJ l y2).1.f),(I6 (aJ l y2).1.c),(St (aJ l y2).1.d)]),(.bool (aJ l y2).2)]) (fun W hM => lB p l _ _ y2 W hM.view hl) ?_)))
      refine zq 3 (cJ (fun b3 => (aY 1 b3 (zq 1 (zn (zQ 3 (aK 51 (!(aJ l y2).2) (fun h6 => ?_) (fun h6 => ?_))))))))
      ·
       refine zq 3 (zn (cD (y2 != 0) (fun h7 => ?_) (fun h7 => ?_)))
       ·
        have h7d := bne_iff_ne.1 h7
        refine zQ 1 (zn (aA (aH [6] [(I6 15)] (fun W' hM => ?_))))
        refine ⟨?_,hM.below⟩
        unfold fI
        rw [e0]
        rw [if_neg (by simp only [h0,h1,h2,bs,bQ,reduceIte]; exact not_false),if_neg (by rw [htw]; exact Bool.false_ne_true),if_neg (by rw [← hww2,cK hy2,List.all_cons]; simp only [Bool.not_eq_true',Bool.not_eq_false'] at h6; simp [h6,h7d])]
        rfl
       ·
        have h7d := bne_eq_false_iff_eq.1 h7
        refine zk (zr (zq 1 (eV 55 ((x2 : Int) + 1) (zq 1 (zn ?_)))))
        refine nx (x2 + 1) ?_ ?_ (d := fun _ h => Mem.sub (List.sublist_append_left _ _) (h.eqv (show _ = ([(bK b0 (eB p a l.length c) 29)] : aF) ++ ([(bK b3 [(I6 (aJ l y2).1.t),(I6 (aJ l y2).1.n),(N6 (aJ l y2).1.f),(I6 (aJ l y2).1.c),(St (aJ l y2).1.d)] 38)] : aF) from by kernel_rfl)))
        · exact ⟨by omega,by simp only [Bool.not_eq_true',Bool.not_eq_false'] at h6; rw [← hww2,cK hy2,List.all_cons]; simp [h6,h7d]⟩
        · show ts.length - (x2 + 1) < ts.length - x2; omega
      ·
       refine zq 3 (zn (dE (zk (zr (zq 1 (eV 55 ((x2 : Int) + 1) (zq 1 (zn ?_))))))))
       refine nx (x2 + 1) ?_ ?_ (d := fun _ h => Mem.sub (List.sublist_append_left _ _) (h.eqv (show _ = ([(bK b0 (eB p a l.length c) 29)] : aF) ++ ([(bK b3 [(I6 (aJ l y2).1.t),(I6 (aJ l y2).1.n),(N6 (aJ l y2).1.f),(I6 (aJ l y2).1.c),(St (aJ l y2).1.d)] 38)] : aF) from by kernel_rfl)))
       · exact ⟨by omega,by simp only [Bool.not_eq_true',Bool.not_eq_false'] at h6; rw [← hww2,cK hy2,List.all_cons]; simp [h6]⟩
       · show ts.length - (x2 + 1) < ts.length - x2; omega
     ·
      have h5d := of_decide_eq_false h5
      refine aU (zQ 1 (zn (aA (aH [6] [(I6 0)] (fun W' hM => ?_)))))
      refine ⟨?_,hM.below⟩
      unfold fI
      rw [e0]
      rw [if_neg (by simp only [h0,h1,h2,bs,bQ,reduceIte]; exact not_false),if_neg (by rw [htw]; exact Bool.false_ne_true),if_pos (by rw [← hww2,cY oW]; rfl)]
      rfl
 ·
  have h0d := bne_eq_false_iff_eq.1 h0
  refine zq 8 (zn (cD ((ts.length : Int) == 0) (fun h8 => ?_) (fun h8 => ?_)))
  ·
   refine zQ 1 (zn (aA (aH [6] [(I6 1)] (fun W' hM => ?_))))
   refine ⟨?_,hM.below⟩
   unfold fI
   rw [e0]
   simp only [h0,h8,bs,bQ,reduceIte]
   rfl
  ·
   have h8d := beq_eq_false_iff_ne.1 h8
   refine zk (zs (zQ 3 (zn (aB (gX (α := Nat) (fun x => [2,3,6,24,25,26].zip [(.slice aS ts.length cS),(Pt b0 0),(I6 0),(.slice aS ts.length cS),(L6 ts.length),(L6 x)]) (fun x => U) (fun x => [(bK b0 (eB p a l.length c) 29)]) (fun x => x ≤ ts.length ∧ pK (ts.take x) (ts.drop x) = pK [] ts) (fun x => ts.length - x) 0 ?_ ?_)))))
   · exact ⟨Nat.zero_le _,rfl⟩
   intro x hx
   obtain ⟨hx1,hx2⟩ := hx
   refine zQ 1 (zn (zs (cD (decide ((x : Int) < (ts.length : Int))) (fun h9 => ?_) (fun h9 => ?_))))
   ·
    have h9d := of_decide_eq_true h9
    refine zk (zs (aB (zQ 1 ?_)))
    obtain ⟨y4,hy4⟩ : ∃ y,(ts)[x]? = some y := ⟨(ts)[x]'oW,List.getElem?_eq_getElem _⟩
    obtain ⟨b4,f4,rfl,hU4⟩ := ht.one hy4
    refine cH (Pt b4 (f4 + x)) (fW _ 3 _ _ rfl b4 f4 ts.length cS x .i64 kR kR (by first | assumption | omega) kR kR) ?_
    refine zV b4 (f4 + x) (I6 y4) hU4 3 (.tmp 29) _ Tryz.underlying3 rfl ?_
    refine zq 2 (zn (zQ 2 (cH (Sl b4 f4 x cS) (gD 48 3 (.tmp 31) none (some (.tmp 32)) none rfl b4 f4 ts.length cS 0 x cS 1 x cS f4 kR eR eR eR (by decide) oW oW oW oW oW (by first | rfl | (split <;> omega)) Tryz.underlying48 kR) ?_)))
    refine zq 1 (dA 121 #[(Sl b4 f4 x cS),(I6 y4)] (.bool ((ts.take x).contains y4)) (fun W hM => (by have h := pW (ts.take x) _ cS y4 W hM.view (ht.take x); rwa [List.length_take,Nat.min_eq_left oW] at h)) ?_)
    refine zn (cD ((ts.take x).contains y4) (fun h10 => ?_) (fun h10 => ?_))
    ·
     refine zQ 1 (zn (aA (aH [6] [(I6 1)] (fun W' hM => ?_))))
     refine ⟨?_,hM.below⟩
     unfold fI
     rw [e0]
     rw [if_neg (by simp only [h0,h8,bs,bQ,reduceIte]; exact not_false),if_pos (by rw [← hx2,oF hy4,if_pos h10])]
     rfl
    ·
     refine zk (zr (zq 1 (eV 36 ((x : Int) + 1) (zq 1 (zn ?_)))))
     refine nx (x + 1) ?_ ?_
     · exact ⟨by omega,by rw [← hx2,oF hy4,if_neg (by rw [h10]; exact Bool.false_ne_true)]⟩
     · show ts.length - (x + 1) < ts.length - x; omega
   ·
    have h9d := of_decide_eq_false h9
    refine aU (zs (zs (zr ?_)))
    have htw : pK [] ts = false := by rw [← hx2,cY oW]; rfl
    refine zq 3 (zn (aB (gX (α := Nat) (fun x2 => [3,6,37,38,39].zip [(Pt b0 0),(I6 0),(.slice aS ts.length cS),(L6 ts.length),(L6 x2)]) (fun x2 => U) (fun x2 => [(bK b0 (eB p a l.length c) 29)]) (fun x2 => x2 ≤ ts.length ∧ (ts.drop x2).all (fun t => (aJ l t).2 || t == 0) = ts.all (fun t => (aJ l t).2 || t == 0)) (fun x2 => ts.length - x2) 0 ?_ ?_)))
    · exact ⟨Nat.zero_le _,rfl⟩
    intro x2 hx2
    obtain ⟨hww1,hww2⟩ := hx2
    refine zQ 1 (zn (zs (cD (decide ((x2 : Int) < (ts.length : Int))) (fun h11 => ?_) (fun h11 => ?_))))
    ·
     have h11d := of_decide_eq_true h11
     refine zk (zs (aB (zs (zr ?_))))
     obtain ⟨y5,hy5⟩ : ∃ y,(ts)[x2]? = some y := ⟨(ts)[x2]'oW,List.getElem?_eq_getElem _⟩
     obtain ⟨b5,f5,rfl,hU5⟩ := ht.one hy5
     refine cH (Pt b5 (f5 + x2)) (fW _ 3 _ _ rfl b5 f5 ts.length cS x2 .i64 kR kR (by first | assumption | omega) kR kR) ?_
     refine zV b5 (f5 + x2) (I6 y5) hU5 3 (.tmp 41) _ Tryz.underlying3 rfl ?_
     refine zq 1 (zn (zB [1,0] [(b0,20)] (dA 64 #[(bnV p a l.length c),(I6 y5)] (.tuple #[(.agg #[(I6 (aJ l y5).1.t),(I6 (aJ l y5).1.n),(N6 (aJ l y5).1.f),(I6 (aJ l y5).1.c),(St (aJ l y5).1.d)]),(.bool (aJ l y5).2)]) (fun W hM => lB p l _ _ y5 W hM.view hl) ?_)))
     refine zq 3 (cJ (fun b6 => (aY 1 b6 (zq 1 (zn (zQ 3 (aK 51 (!(aJ l y5).2) (fun h12 => ?_) (fun h12 => ?_))))))))
     ·
      refine zq 3 (zn (cD (y5 != 0) (fun h13 => ?_) (fun h13 => ?_)))
      ·
       have h13d := bne_iff_ne.1 h13
       refine zQ 1 (zn (aA (aH [6] [(I6 15)] (fun W' hM => ?_))))
       refine ⟨?_,hM.below⟩
       unfold fI
       rw [e0]
       rw [if_neg (by simp only [h0,h8,bs,bQ,reduceIte]; exact not_false),if_neg (by rw [htw]; exact Bool.false_ne_true),if_neg (by rw [← hww2,cK hy5,List.all_cons]; simp only [Bool.not_eq_true',Bool.not_eq_false'] at h12; simp [h12,h13d])]
       rfl
      ·
       have h13d := bne_eq_false_iff_eq.1 h13
       refine zk (zr (zq 1 (eV 55 ((x2 : Int) + 1) (zq 1 (zn ?_)))))
       refine nx (x2 + 1) ?_ ?_ (d := fun _ h => Mem.sub (List.sublist_append_left _ _) (h.eqv (show _ = ([(bK b0 (eB p a l.length c) 29)] : aF) ++ ([(bK b6 [(I6 (aJ l y5).1.t),(I6 (aJ l y5).1.n),(N6 (aJ l y5).1.f),(I6 (aJ l y5).1.c),(St (aJ l y5).1.d)] 38)] : aF) from by kernel_rfl)))
       · exact ⟨by omega,by simp only [Bool.not_eq_true',Bool.not_eq_false'] at h12; rw [← hww2,cK hy5,List.all_cons]; simp [h12,h13d]⟩
       · show ts.length - (x2 + 1) < ts.length - x2; omega
     ·
      refine zq 3 (zn (dE (zk (zr (zq 1 (eV 55 ((x2 : Int) + 1) (zq 1 (zn ?_))))))))
      refine nx (x2 + 1) ?_ ?_ (d := fun _ h => Mem.sub (List.sublist_append_left _ _) (h.eqv (show _ = ([(bK b0 (eB p a l.length c) 29)] : aF) ++ ([(bK b6 [(I6 (aJ l y5).1.t),(I6 (aJ l y5).1.n),(N6 (aJ l y5).1.f),(I6 (aJ l y5).1.c),(St (aJ l y5).1.d)] 38)] : aF) from by kernel_rfl)))
      · exact ⟨by omega,by simp only [Bool.not_eq_true',Bool.not_eq_false'] at h12; rw [← hww2,cK hy5,List.all_cons]; simp [h12]⟩
      · show ts.length - (x2 + 1) < ts.length - x2; omega
    ·
     have h11d := of_decide_eq_false h11
     refine aU (zQ 1 (zn (aA (aH [6] [(I6 0)] (fun W' hM => ?_)))))
     refine ⟨?_,hM.below⟩
     unfold fI
     rw [e0]
     rw [if_neg (by simp only [h0,h8,bs,bQ,reduceIte]; exact not_false),if_neg (by rw [htw]; exact Bool.false_ne_true),if_pos (by rw [← hww2,cY oW]; rfl)]
     rfl
structure Go_ where
 i : Nat
 r : Rw
 xs : List Value
 m : Nat
 L : List (Op × List Value)
 V : View
def qR (pre : List Op) : Option (List Op) → Option (List Op)
 | none => none
 | some q => some (pre ++ q)
theorem aEl (o : Option (List Op)) : qR [] o = o := by cases o <;> rfl
theorem aBi {typ kind ctx : Int} {out : Bk → Bool} {l : List Bk} {i : Nat} {y : Bk} (h : l[i]? = some y) : lS typ kind ctx out (l.drop i) = if y.t != typ || out y then lS typ kind ctx out (l.drop (i + 1)) else match gE y.d with
  | none => none
  | some a => if a.c != ctx then none else match lS typ kind ctx out (l.drop (i + 1)) with
   | none => none
   | some r => some (opsOf kind y.n a.t ++ r) := by
 rw [cK h, lS]
 rfl
theorem aBh {typ kind ctx : Int} {out : Bk → Bool} {l : List Bk} {i : Nat} {y : Bk} {pre : List Op} (h : l[i]? = some y) (hs : (y.t != typ || out y) = true) : qR pre (lS typ kind ctx out (l.drop (i + 1))) = qR pre (lS typ kind ctx out (l.drop i)) := by
 rw [aBi h, if_pos hs]
theorem aDT {typ kind ctx : Int} {out : Bk → Bool} {l : List Bk} {i : Nat} {y : Bk} {pre : List Op} {a : As} (h : l[i]? = some y) (hs : (y.t != typ || out y) = false) (ha : gE y.d = some a) (hc : (a.c != ctx) = false) : qR (pre ++ opsOf kind y.n a.t) (lS typ kind ctx out (l.drop (i + 1))) = qR pre (lS typ kind ctx out (l.drop i)) := by
 rw [aBi h, if_neg (by rw [hs]; exact Bool.false_ne_true), ha]
 simp only
 rw [if_neg (by rw [hc]; exact Bool.false_ne_true)]
 cases lS typ kind ctx out (l.drop (i + 1)) with
 | none => rfl
 | some r => simp only [qR, List.append_assoc]
theorem aAI {typ kind ctx : Int} {out : Bk → Bool} {l : List Bk} {i : Nat} {y : Bk} (h : l[i]? = some y) (hs : (y.t != typ || out y) = false) (hb : gE y.d = none ∨ ∃ a, gE y.d = some a ∧ (a.c != ctx) = true) : lS typ kind ctx out (l.drop i) = none := by
 rw [aBi h, if_neg (by rw [hs]; exact Bool.false_ne_true)]
 rcases hb with hb | ⟨a, hb, hc⟩
 · rw [hb]
 ·
  rw [hb]
  simp only
  rw [if_pos hc]
theorem qN {pre : List Op} {o p : Option (List Op)} (h : qR pre o = p) (ho : o = none) : p = none := by rw [← h, ho]; rfl
theorem aCy {pre : List Op} {p : Option (List Op)} (h : qR pre (some []) = p) : p = some pre := by rw [← h]; simp [qR]
theorem RwR.opAny {V V' : View} {r : Rw} {xs : List Value} {m : Nat} {L : List (Op × List Value)} (h : RwR OpR 3 V r xs m L) : RwR OpR 3 V' r xs m L := by
 have hA : ∀ {L : List (Op × List Value)}, qS OpR V L → qS OpR V' L := by
  intro L
  induction L with
  | nil => intro _; trivial
  | cons p r ih => intro ⟨h1, h2⟩; exact ⟨h1, ih h2⟩
 exact ⟨h.ok, h.xs, h.m, hA h.all⟩
def aBU (x : Option (List Op)) (v : Value) (σ : aF) : Prop := match x with
 | some q => ∃ r xs L, v = .tuple #[Rw.V r q.length, .int .i64 0] ∧ σ = Rw.B r 153 xs ∧ RwR OpR 3 View.no r xs q.length L ∧ L.map Prod.fst = q
 | none => v = .tuple #[.slice none 0 0, .int .i64 2] ∧ σ = []
theorem oJ {W0 : Cx} {U V : View} {σ1 σF ρ : aF} {Φ : Value → View → aF → Prop} {v : Value} {W' : World} (hM : Mem W0 V ((σ1 ++ σF) ++ ρ) W') (hl : View.le U V) (h : Φ v V ρ) : fN W0 U σF Φ (.returned v) W' := by
 refine ⟨v, V, ρ, rfl, hl, ?_, h⟩
 have h1 := hM.perm List.perm_append_comm
 exact h1.sub (List.Sublist.append (List.Sublist.refl _) (List.sublist_append_right _ _))
theorem mP {W0 : Cx} {U V : View} {σ1 σF ρ : aF} {Φ : Value → View → aF → Prop} {v : Value} {W' : World} (hM : Mem W0 V ((σ1 ++ σF) ++ ρ) W') (hl : View.le U V) (h : Φ v V []) : fN W0 U σF Φ (.returned v) W' := by
 refine ⟨v, V, [], rfl, hl, ?_, h⟩
 have h1 : σF.Sublist ((σ1 ++ σF) ++ ρ) := (List.sublist_append_right σ1 σF).trans (List.sublist_append_left _ _)
 exact hM.sub h1
theorem aKT (x : Bk) (se : List Op) (aS : Option Addr) (cS ps : Nat) (w : World) {U : View} (hU : See U w) (hse : iM OpR 3 U aS se) (hps : U ⟨ps, 0, none⟩ = some (.slice aS se.length cS)) : CP 124 #[x.V, .pointer (some ⟨ps, 0, none⟩)] w (Ret (.bool (eK se 2 x.n)) w) := by
 refine eG 8 Tryz.func124 hU ?_
 refine zs (zr (cJ (fun b0 => (zq 1 (zn (zs (zr (zV ps (0) (.slice aS se.length cS) hps 119 (.tmp 1) _ Tryz.underlying119 rfl ?_))))))))
 refine cU [0,1] [(b0,1)] (dA 125 #[(.slice aS se.length cS),(I6 2),(I6 x.n)] (.bool (eK se 2 x.n)) (fun W hM => aEy se _ _ 2 x.n W hM.view hse) ?_)
 refine zq 1 (zn (aA (jJ 3)))
theorem aKU (x : Bk) (w : World) : CP 123 #[x.V] w (Ret (.bool false) w) := by
 refine dK 3 Tryz.func123 ?_
 refine zs (zr (cJ (fun b0 => (zq 1 (zn (zQ 1 (zn (aA (jJ 2)))))))))
theorem aA4 {a : As} (h : a.right = true) : a.t.length ≤ 16 := by
 have hs := As.shaped h
 unfold dV at hs
 simp only [Bool.and_eq_true, decide_eq_true_eq] at hs
 exact hs.1.1.1.1.1.1.1.2
theorem aBg (eA : Addr) (p : Pr) (l : List Bk) (a : Option Addr) (c : Nat) {W0 : Cx} {U : View} {σF : aF} {W : World} (hE : EF U eA) (hl : cX U a l) (hdl : ∀ x ∈ l, x.d.length ≤ 100000) (hsm : l.length ≤ 1000000) (hM : Mem W0 U ([] ++ σF) W) : CP 122 #[bnV p a l.length c, .int .i64 12, .int .i64 2, .int .i64 2, (.func (.func 123) #[] #[])] W (fN W0 U σF fun v _ σ' => aBU (lS 12 2 2 (fun _ => false) l) v σ') := by
 refine eC 67 Tryz.func122 hM ?_
 refine zs (zr (dN 0 (fun b0 => ?_)))
 refine zq 2 (zn (zQ 1 (zn (zs (zB [0,1,0,0] [(b0,1)] (zn (aB (gX (α := Go_) (fun x => [1,2,3,4,10,11,12,20,21,22].zip [(I6 12),(I6 2),(I6 2),(.func (.func 123) #[] #[]),S0,(I6 0),(x.r.V x.m),(.slice a l.length c),(L6 l.length),(L6 x.i)]) (fun x => x.V) (fun x => ([(bK b0 (eB p a l.length c) 29)] ++ σF ++ x.r.B 153 x.xs)) (fun x => x.i ≤ l.length ∧ View.le U x.V ∧ RwR OpR 3 x.V x.r x.xs x.m x.L ∧ x.m ≤ 16 * x.i ∧ qR (x.L.map Prod.fst) (lS 12 2 2 (fun _ => false) (l.drop x.i)) = lS 12 2 2 (fun _ => false) l) (fun x => l.length - x.i) ⟨0,Rw.nil,[],0,[],U⟩ ?_ ?_ (hm := fun _ h => h.eqv (Eq.trans kR (List.append_nil (([(bK b0 (eB p a l.length c) 29)] ++ σF) : aF)).symm))))))))))
 · exact ⟨Nat.zero_le _,View.le_refl _,RwR.nil,Nat.zero_le _,aEl _⟩
 intro x hx
 obtain ⟨hxi,hxl,hxr,hxm,hxp⟩ := hx
 refine zQ 1 (zn (zs (cD (decide ((x.i : Int) < (l.length : Int))) (fun h0 => ?_) (fun h0 => ?_))))
 ·
  have h0d := of_decide_eq_true h0
  refine zk (zs (aB (zs (zr ?_))))
  obtain ⟨y1,hy1⟩ : ∃ y,(l)[x.i]? = some y := ⟨(l)[x.i]'oW,List.getElem?_eq_getElem _⟩
  obtain ⟨b1,f1,rfl,hU1⟩ := (hl.le hxl).at_ x.i y1 hy1
  refine cH (Pt b1 (f1 + x.i * 5)) (rIx 38 rfl b1 f1 l.length c x.i 5) ?_
  refine zU b1 (f1 + x.i * 5) y1.cs hU1 38 (.tmp 24) _ Tryz.underlying38 rfl ?_
  refine dN 1 (fun b2 => ?_)
  refine aY 1 b2 (zn (zs (zB [0,2,0,0,0] [(b2,1)] (aK 30 (y1.t != 12) (fun h1 => ?_) (fun h1 => ?_)))))
  ·
   have h1d := bne_iff_ne.1 h1
   refine zq 4 (zn (dF (aU (zr (zq 1 (eV 65 ((x.i : Int) + 1) (zq 1 (zn ?_))))))))
   refine nx ⟨x.i + 1,x.r,x.xs,x.m,x.L,x.V⟩ ?_ ?_ (d := fun _ h => Mem.sub (List.Sublist.append (List.Sublist.append (List.sublist_append_left _ _) (List.Sublist.refl _)) (List.Sublist.refl _)) (h.eqv (show _ = (((([(bK b0 (eB p (some ⟨b1,f1,none⟩) l.length c) 29)] : aF) ++ ([(bK b2 y1.cs 38)] : aF)) ++ (σF)) ++ (x.r.B 153 x.xs)) from by kernel_rfl)))
   · exact ⟨by show x.i + 1 ≤ _; omega,hxl,hxr,by show x.m ≤ 16 * (x.i + 1); omega,by show qR (x.L.map Prod.fst) (lS 12 2 2 (fun _ => false) (l.drop (x.i + 1))) = _; rw [aBh hy1 (by rw [h1]; rfl),hxp]⟩
   · show l.length - (x.i + 1) < l.length - x.i; omega
  ·
   have h1d := bne_eq_false_iff_eq.1 h1
   refine cU [0,2] [(b2,5)] (dL (fun W hM => aKU y1 W) (zq 1 (zn (dE (zk (zB [0,2] [(b2,1)] ?_))))))
   rcases Bool.eq_false_or_eq_true ((gE y1.d).isSome) with h2 | h2
   ·
    refine aED (fun W hM => lH eA y1.d W hM.view (hE.le hxl) (by have := hdl y1 (List.mem_of_getElem? hy1); omega)) (fun v3 V3 hV3 hP3 => ?_)
    have k5 := hxr.le hV3
    obtain ⟨a3,hq3⟩ := Option.isSome_iff_exists.1 h2
    rw [hq3] at hP3
    obtain ⟨x3,y3,z3,u3,v3,w3,rfl,hA3,hc3⟩ := hP3
    have fA3 := hA3.t
    have fB3 := hA3.p
    have fC3 := hA3.r
    have ht163 := aA4 (oM hq3).2.1
    refine zq 3 (dN 2 (fun b6 => ?_))
    refine aY 2 b6 (zq 1 (zn (zs (zB [0,0,0,0,3,0,0,0] [(b6,1)] (zn (cD (a3.c != 2) (fun h3 => ?_) (fun h3 => ?_)))))))
    ·
     have h3d := bne_iff_ne.1 h3
     refine zQ 2 (zn (aA (aH [10,11] [S0,(I6 2)] (fun W' hM => ?_))))
     have hz : lS 12 2 2 (fun _ => false) l = none := qN hxp (aAI hy1 (by rw [h1]; rfl) (.inr ⟨a3,hq3,h3⟩))
     rw [hz]
     exact mP (hM.eqv (show _ = (([(bK b0 (eB p (some ⟨b1,f1,none⟩) l.length c) 29),(bK b2 y1.cs 38),(bK b6 [(.slice x3 a3.t.length u3),(I6 a3.c),(I6 a3.s.s),(St a3.s.l),(N6 a3.s.n),(N6 a3.s.v),(.slice y3 a3.p.length v3),(.slice z3 a3.r.length w3)] 96)] : aF) ++ σF) ++ (x.r.B 153 x.xs) from by kernel_rfl)) (View.le_trans hxl hV3) ⟨rfl,rfl⟩
    ·
     have h3d := bne_eq_false_iff_eq.1 h3
     refine zk (zB [0,3,0,0] [(b6,1)] (zn (aB (gX (α := Go_) (fun x2 => [1,2,3,4,10,11,12,14,15,16,20,21,22,23,24,25,26,27,28,29,30,31,32,33,34,35,36,37,38,39,40,41,42,43,44,45,46,47,48,49,50,51,52].zip [(I6 12),(I6 2),(I6 2),(.func (.func 123) #[] #[]),S0,(I6 0),(x2.r.V x2.m),(Pt b2 0),(Pt b6 0),(I6 0),(Sl b1 f1 l.length c),(L6 l.length),(L6 x.i),(.bool (decide ((x.i : Int) < (l.length : Int)))),(Pt b1 (f1 + x.i * 5)),(y1.V),(Pt b2 0),(I6 y1.t),(I6 12),(.bool (y1.t != 12)),(.bool false),(.func (.func 123) #[] #[]),(y1.V),(.bool false),(.bool false),(.tuple #[(asV a3 x3 y3 z3 u3 v3 w3),(I6 0)]),(Pt b2 4),(St y1.d),(.tuple #[(asV a3 x3 y3 z3 u3 v3 w3),(I6 0)]),(asV a3 x3 y3 z3 u3 v3 w3),(I6 0),(I6 0),(.bool false),(.bool false),(Pt b6 1),(I6 a3.c),(I6 2),(.bool (a3.c != 2)),(.bool (a3.c != 2)),(Pt b6 0),(.slice x3 a3.t.length u3),(L6 a3.t.length),(L6 x2.i)]) (fun x2 => V3) (fun x2 => ([(bK b0 (eB p (some ⟨b1,f1,none⟩) l.length c) 29),(bK b2 y1.cs 38),(bK b6 [(.slice x3 a3.t.length u3),(I6 a3.c),(I6 a3.s.s),(St a3.s.l),(N6 a3.s.n),(N6 a3.s.v),(.slice y3 a3.p.length v3),(.slice z3 a3.r.length w3)] 96)] ++ σF ++ x2.r.B 153 x2.xs)) (fun x2 => x2.i ≤ a3.t.length ∧ RwR OpR 3 V3 x2.r x2.xs x2.m x2.L ∧ (x2.m = x.m + x2.i ∧ x2.L.map Prod.fst = x.L.map Prod.fst ++ opsOf 2 y1.n (a3.t.take x2.i))) (fun x2 => a3.t.length - x2.i) ⟨0,x.r,x.xs,x.m,x.L,V3⟩ ?_ ?_))))
     · exact ⟨Nat.zero_le _,k5,rfl,by show _ = _ ++ opsOf 2 _ []; rw [show opsOf 2 y1.n [] = [] from rfl,List.append_nil]⟩
     intro x2 hx2
     obtain ⟨hx2i,hx2r,hx2p⟩ := hx2
     refine zQ 1 (zn (zs (cD (decide ((x2.i : Int) < (a3.t.length : Int))) (fun h4 => ?_) (fun h4 => ?_))))
     ·
      have h4d := of_decide_eq_true h4
      refine zk (zs (aB (zs (zr ?_))))
      obtain ⟨y7,hy7⟩ : ∃ y,(a3.t)[x2.i]? = some y := ⟨(a3.t)[x2.i]'oW,List.getElem?_eq_getElem _⟩
      obtain ⟨b7,f7,rfl,hU7⟩ := fA3.one hy7
      refine cH (Pt b7 (f7 + x2.i)) (fW _ 3 _ _ rfl b7 f7 a3.t.length u3 x2.i .i64 kR kR (by first | assumption | omega) kR kR) ?_
      refine zV b7 (f7 + x2.i) (I6 y7) hU7 3 (.tmp 54) _ Tryz.underlying3 rfl ?_
      refine zq 1 (zn (zr (cU [0,0,0,2,0,0] [(b2,1)] (dN 3 (fun b8 => ?_)))))
      refine fV x2.r x2.xs x2.m ([(bK b0 (eB p (some ⟨b1,f1,none⟩) l.length c) 29),(bK b2 y1.cs 38),(bK b6 [(Sl b7 f7 a3.t.length u3),(I6 a3.c),(I6 a3.s.s),(St a3.s.l),(N6 a3.s.n),(N6 a3.s.v),(.slice y3 a3.p.length v3),(.slice z3 a3.r.length w3)] 96),(bK b8 [(I6 2),(I6 y1.n),(I6 y7)] 153)] ++ σF) 153 119 3 24 1 kR hx2r.ok (.tmp 56) (.tmp 62) rfl kR b8 0 1 [(I6 2),(I6 y1.n),(I6 y7)] kR (fun W hM => cW hM 3 b8 [(I6 2),(I6 y1.n),(I6 y7)] 153 kR) rfl (List.all_eq_true.1 kR) (by decide) (by unfold maxLen; omega) oW kR kR kR kR kR (fun r9 hr9 => ?_)
      refine zq 1 (zn (zr (zq 1 (eV 64 ((x2.i : Int) + 1) (zq 1 (zn ?_))))))
      refine nx ⟨x2.i + 1,r9,(x2.xs ++ [(I6 2),(I6 y1.n),(I6 y7)]),(x2.m + 1),x2.L ++ [(⟨2,y1.n,y7⟩,[(I6 2),(I6 y1.n),(I6 y7)])],V3⟩ ?_ ?_ (d := fun _ h => Mem.sub (List.Sublist.append (List.Sublist.append (List.sublist_append_left _ _) (List.Sublist.refl _)) (List.Sublist.refl _)) (h.eqv (show _ = (((([(bK b0 (eB p (some ⟨b1,f1,none⟩) l.length c) 29),(bK b2 y1.cs 38),(bK b6 [(Sl b7 f7 a3.t.length u3),(I6 a3.c),(I6 a3.s.s),(St a3.s.l),(N6 a3.s.n),(N6 a3.s.v),(.slice y3 a3.p.length v3),(.slice z3 a3.r.length w3)] 96)] : aF) ++ ([(bK b8 [(I6 2),(I6 y1.n),(I6 y7)] 153)] : aF)) ++ (σF)) ++ (r9.B 153 (x2.xs ++ [(I6 2),(I6 y1.n),(I6 y7)]))) from by kernel_rfl)))
      · exact ⟨by show x2.i + 1 ≤ _; omega,RwR.snoc hx2r rfl hr9,by show x2.m + 1 = x.m + (x2.i + 1); omega,by rw [List.map_append,hx2p.2,show opsOf 2 y1.n (a3.t.take (x2.i + 1)) = opsOf 2 y1.n (a3.t.take x2.i) ++ [⟨2,y1.n,y7⟩] from eX _ hy7,List.append_assoc]; rfl⟩
      · show a3.t.length - (x2.i + 1) < a3.t.length - x2.i; omega
     ·
      have h4d := of_decide_eq_false h4
      refine aU (zr (zq 1 (eV 65 ((x.i : Int) + 1) (zq 1 (zn ?_)))))
      refine nx ⟨x.i + 1,x2.r,x2.xs,x2.m,x2.L,V3⟩ ?_ ?_ (d := fun _ h => Mem.sub (List.Sublist.append (List.Sublist.append (List.sublist_append_left _ _) (List.Sublist.refl _)) (List.Sublist.refl _)) (h.eqv (show _ = (((([(bK b0 (eB p (some ⟨b1,f1,none⟩) l.length c) 29)] : aF) ++ ([(bK b2 y1.cs 38),(bK b6 [(.slice x3 a3.t.length u3),(I6 a3.c),(I6 a3.s.s),(St a3.s.l),(N6 a3.s.n),(N6 a3.s.v),(.slice y3 a3.p.length v3),(.slice z3 a3.r.length w3)] 96)] : aF)) ++ (σF)) ++ (x2.r.B 153 x2.xs)) from by kernel_rfl)))
      · exact ⟨by show x.i + 1 ≤ _; omega,(View.le_trans hxl hV3),hx2r,by show x2.m ≤ 16 * (x.i + 1); omega,by show qR (x2.L.map Prod.fst) (lS 12 2 2 (fun _ => false) (l.drop (x.i + 1))) = _; rw [hx2p.2,List.take_of_length_le oW,aDT hy1 (by rw [h1]; rfl) hq3 h3,hxp]⟩
      · show l.length - (x.i + 1) < l.length - x.i; omega
   ·
    refine aED (fun W hM => lH eA y1.d W hM.view (hE.le hxl) (by have := hdl y1 (List.mem_of_getElem? hy1); omega)) (fun v10 V10 hV10 hP10 => ?_)
    have hq10 := Option.not_isSome_iff_eq_none.1 (by rw [h2]; exact Bool.false_ne_true)
    rw [hq10] at hP10
    obtain rfl := hP10
    refine zq 3 (dN 2 (fun b13 => ?_))
    refine aY 2 b13 (zq 1 (zn (zs (zQ 8 (zn (dF (zQ 2 (zn (aA (aH [10,11] [S0,(I6 2)] (fun W' hM => ?_)))))))))))
    have hz : lS 12 2 2 (fun _ => false) l = none := qN hxp (aAI hy1 (by rw [h1]; rfl) (.inl hq10))
    rw [hz]
    exact mP (hM.eqv (show _ = (([(bK b0 (eB p (some ⟨b1,f1,none⟩) l.length c) 29),(bK b2 y1.cs 38),(b13,.cells [S0,(I6 0),(I6 0),(St []),(U6 0),(U6 0),S0,S0].toArray 96 (0,0))] : aF) ++ σF) ++ (x.r.B 153 x.xs) from by kernel_rfl)) (View.le_trans hxl hV10) ⟨rfl,rfl⟩
 ·
  have h0d := of_decide_eq_false h0
  refine aU (zQ 3 (zn (aA (aH [10,11] [(x.r.V x.m),(I6 0)] (fun W' hM => ?_)))))
  have hz : lS 12 2 2 (fun _ => false) l = some (x.L.map Prod.fst) := aCy (by rw [← hxp,cY oW]; rfl)
  rw [hz]
  have hm9 : x.m = (x.L.map Prod.fst).length := by rw [List.length_map]; exact hxr.m
  have hr9 : RwR OpR 3 View.no x.r x.xs x.m x.L := hxr.opAny
  rw [hm9] at hr9
  exact oJ (hM.eqv (show _ = (([(bK b0 (eB p a l.length c) 29)] : aF) ++ σF) ++ (x.r.B 153 x.xs) from by kernel_rfl)) hxl ⟨x.r,x.xs,x.L,by show Value.tuple #[x.r.V x.m,.int .i64 0] = _; rw [← hm9],rfl,hr9,rfl⟩
theorem aBf (eA : Addr) (p : Pr) (l : List Bk) (a : Option Addr) (c : Nat) (se : List Op) (aS : Option Addr) (cS ps : Nat) {W0 : Cx} {U : View} {σF : aF} {W : World} (hE : EF U eA) (hl : cX U a l) (hdl : ∀ x ∈ l, x.d.length ≤ 100000) (hsm : l.length ≤ 1000000) (hse : iM OpR 3 U aS se) (hps : U ⟨ps, 0, none⟩ = some (.slice aS se.length cS)) (hM : Mem W0 U ([] ++ σF) W) : CP 122 #[bnV p a l.length c, .int .i64 11, .int .i64 1, .int .i64 1, (.func (.func 124) #[] #[(.pointer (some ⟨ps, 0, none⟩))])] W (fN W0 U σF fun v _ σ' => aBU (lS 11 1 1 (fun x => eK se 2 x.n) l) v σ') := by
 refine eC 67 Tryz.func122 hM ?_
 refine zs (zr (dN 0 (fun b0 => ?_)))
 refine zq 2 (zn (zQ 1 (zn (zs (zB [0,1,0,0] [(b0,1)] (zn (aB (gX (α := Go_) (fun x => [1,2,3,4,10,11,12,20,21,22].zip [(I6 11),(I6 1),(I6 1),(.func (.func 124) #[] #[(Pt ps 0)]),S0,(I6 0),(x.r.V x.m),(.slice a l.length c),(L6 l.length),(L6 x.i)]) (fun x => x.V) (fun x => ([(bK b0 (eB p a l.length c) 29)] ++ σF ++ x.r.B 153 x.xs)) (fun x => x.i ≤ l.length ∧ View.le U x.V ∧ RwR OpR 3 x.V x.r x.xs x.m x.L ∧ x.m ≤ 16 * x.i ∧ qR (x.L.map Prod.fst) (lS 11 1 1 (fun x => eK se 2 x.n) (l.drop x.i)) = lS 11 1 1 (fun x => eK se 2 x.n) l) (fun x => l.length - x.i) ⟨0,Rw.nil,[],0,[],U⟩ ?_ ?_ (hm := fun _ h => h.eqv (Eq.trans kR (List.append_nil (([(bK b0 (eB p a l.length c) 29)] ++ σF) : aF)).symm))))))))))
 · exact ⟨Nat.zero_le _,View.le_refl _,RwR.nil,Nat.zero_le _,aEl _⟩
 intro x hx
 obtain ⟨hxi,hxl,hxr,hxm,hxp⟩ := hx
 refine zQ 1 (zn (zs (cD (decide ((x.i : Int) < (l.length : Int))) (fun h0 => ?_) (fun h0 => ?_))))
 ·
  have h0d := of_decide_eq_true h0
  refine zk (zs (aB (zs (zr ?_))))
  obtain ⟨y1,hy1⟩ : ∃ y,(l)[x.i]? = some y := ⟨(l)[x.i]'oW,List.getElem?_eq_getElem _⟩
  obtain ⟨b1,f1,rfl,hU1⟩ := (hl.le hxl).at_ x.i y1 hy1
  refine cH (Pt b1 (f1 + x.i * 5)) (rIx 38 rfl b1 f1 l.length c x.i 5) ?_
  refine zU b1 (f1 + x.i * 5) y1.cs hU1 38 (.tmp 24) _ Tryz.underlying38 rfl ?_
  refine dN 1 (fun b2 => ?_)
  refine aY 1 b2 (zn (zs (zB [0,2,0,0,0] [(b2,1)] (aK 30 (y1.t != 11) (fun h1 => ?_) (fun h1 => ?_)))))
  ·
   have h1d := bne_iff_ne.1 h1
   refine zq 4 (zn (dF (aU (zr (zq 1 (eV 65 ((x.i : Int) + 1) (zq 1 (zn ?_))))))))
   refine nx ⟨x.i + 1,x.r,x.xs,x.m,x.L,x.V⟩ ?_ ?_ (d := fun _ h => Mem.sub (List.Sublist.append (List.Sublist.append (List.sublist_append_left _ _) (List.Sublist.refl _)) (List.Sublist.refl _)) (h.eqv (show _ = (((([(bK b0 (eB p (some ⟨b1,f1,none⟩) l.length c) 29)] : aF) ++ ([(bK b2 y1.cs 38)] : aF)) ++ (σF)) ++ (x.r.B 153 x.xs)) from by kernel_rfl)))
   · exact ⟨by show x.i + 1 ≤ _; omega,hxl,hxr,by show x.m ≤ 16 * (x.i + 1); omega,by show qR (x.L.map Prod.fst) (lS 11 1 1 (fun x => eK se 2 x.n) (l.drop (x.i + 1))) = _; rw [aBh hy1 (by rw [h1]; rfl),hxp]⟩
   · show l.length - (x.i + 1) < l.length - x.i; omega
  ·
   have h1d := bne_eq_false_iff_eq.1 h1
   refine cU [0,2] [(b2,5)] (dA 124 #[(y1.V),(Pt ps 0)] (.bool (eK se 2 y1.n)) (fun W hM => aKT y1 se _ _ ps W hM.view (hse.le hxl) (hxl _ _ hps)) ?_)
   refine zq 1 (zn (cD (eK se 2 y1.n) (fun h2 => ?_) (fun h2 => ?_)))
   ·
    refine aU (zr (zq 1 (eV 65 ((x.i : Int) + 1) (zq 1 (zn ?_)))))
    refine nx ⟨x.i + 1,x.r,x.xs,x.m,x.L,x.V⟩ ?_ ?_ (d := fun _ h => Mem.sub (List.Sublist.append (List.Sublist.append (List.sublist_append_left _ _) (List.Sublist.refl _)) (List.Sublist.refl _)) (h.eqv (show _ = (((([(bK b0 (eB p (some ⟨b1,f1,none⟩) l.length c) 29)] : aF) ++ ([(bK b2 y1.cs 38)] : aF)) ++ (σF)) ++ (x.r.B 153 x.xs)) from by kernel_rfl)))
    · exact ⟨by show x.i + 1 ≤ _; omega,hxl,hxr,by show x.m ≤ 16 * (x.i + 1); omega,by show qR (x.L.map Prod.fst) (lS 11 1 1 (fun x => eK se 2 x.n) (l.drop (x.i + 1))) = _; rw [aBh hy1 (by rw [h1,h2]; rfl),hxp]⟩
    · show l.length - (x.i + 1) < l.length - x.i; omega
   ·
    refine zk (zB [0,2] [(b2,1)] ?_)
    rcases Bool.eq_false_or_eq_true ((gE y1.d).isSome) with h3 | h3
    ·
     refine aED (fun W hM => lH eA y1.d W hM.view (hE.le hxl) (by have := hdl y1 (List.mem_of_getElem? hy1); omega)) (fun v3 V3 hV3 hP3 => ?_)
     have k5 := hxr.le hV3
     obtain ⟨a3,hq3⟩ := Option.isSome_iff_exists.1 h3
     rw [hq3] at hP3
     obtain ⟨x3,y3,z3,u3,v3,w3,rfl,hA3,hc3⟩ := hP3
     have fA3 := hA3.t
     have fB3 := hA3.p
     have fC3 := hA3.r
     have ht163 := aA4 (oM hq3).2.1
     refine zq 3 (dN 2 (fun b6 => ?_))
     refine aY 2 b6 (zq 1 (zn (zs (zB [0,0,0,0,3,0,0,0] [(b6,1)] (zn (cD (a3.c != 1) (fun h4 => ?_) (fun h4 => ?_)))))))
     ·
      have h4d := bne_iff_ne.1 h4
      refine zQ 2 (zn (aA (aH [10,11] [S0,(I6 2)] (fun W' hM => ?_))))
      have hz : lS 11 1 1 (fun x => eK se 2 x.n) l = none := qN hxp (aAI hy1 (by rw [h1,h2]; rfl) (.inr ⟨a3,hq3,h4⟩))
      rw [hz]
      exact mP (hM.eqv (show _ = (([(bK b0 (eB p (some ⟨b1,f1,none⟩) l.length c) 29),(bK b2 y1.cs 38),(bK b6 [(.slice x3 a3.t.length u3),(I6 a3.c),(I6 a3.s.s),(St a3.s.l),(N6 a3.s.n),(N6 a3.s.v),(.slice y3 a3.p.length v3),(.slice z3 a3.r.length w3)] 96)] : aF) ++ σF) ++ (x.r.B 153 x.xs) from by kernel_rfl)) (View.le_trans hxl hV3) ⟨rfl,rfl⟩
     ·
      have h4d := bne_eq_false_iff_eq.1 h4
      refine zk (zB [0,3,0,0] [(b6,1)] (zn (aB (gX (α := Go_) (fun x2 => [1,2,3,4,10,11,12,14,15,16,20,21,22,23,24,25,26,27,28,29,30,31,32,33,34,35,36,37,38,39,40,41,42,43,44,45,46,47,48,49,50,51,52].zip [(I6 11),(I6 1),(I6 1),(.func (.func 124) #[] #[(Pt ps 0)]),S0,(I6 0),(x2.r.V x2.m),(Pt b2 0),(Pt b6 0),(I6 0),(Sl b1 f1 l.length c),(L6 l.length),(L6 x.i),(.bool (decide ((x.i : Int) < (l.length : Int)))),(Pt b1 (f1 + x.i * 5)),(y1.V),(Pt b2 0),(I6 y1.t),(I6 11),(.bool (y1.t != 11)),(.bool false),(.func (.func 124) #[] #[(Pt ps 0)]),(y1.V),(.bool (eK se 2 y1.n)),(.bool (eK se 2 y1.n)),(.tuple #[(asV a3 x3 y3 z3 u3 v3 w3),(I6 0)]),(Pt b2 4),(St y1.d),(.tuple #[(asV a3 x3 y3 z3 u3 v3 w3),(I6 0)]),(asV a3 x3 y3 z3 u3 v3 w3),(I6 0),(I6 0),(.bool false),(.bool false),(Pt b6 1),(I6 a3.c),(I6 1),(.bool (a3.c != 1)),(.bool (a3.c != 1)),(Pt b6 0),(.slice x3 a3.t.length u3),(L6 a3.t.length),(L6 x2.i)]) (fun x2 => V3) (fun x2 => ([(bK b0 (eB p (some ⟨b1,f1,none⟩) l.length c) 29),(bK b2 y1.cs 38),(bK b6 [(.slice x3 a3.t.length u3),(I6 a3.c),(I6 a3.s.s),(St a3.s.l),(N6 a3.s.n),(N6 a3.s.v),(.slice y3 a3.p.length v3),(.slice z3 a3.r.length w3)] 96)] ++ σF ++ x2.r.B 153 x2.xs)) (fun x2 => x2.i ≤ a3.t.length ∧ RwR OpR 3 V3 x2.r x2.xs x2.m x2.L ∧ (x2.m = x.m + x2.i ∧ x2.L.map Prod.fst = x.L.map Prod.fst ++ opsOf 1 y1.n (a3.t.take x2.i))) (fun x2 => a3.t.length - x2.i) ⟨0,x.r,x.xs,x.m,x.L,V3⟩ ?_ ?_))))
      · exact ⟨Nat.zero_le _,k5,rfl,by show _ = _ ++ opsOf 1 _ []; rw [show opsOf 1 y1.n [] = [] from rfl,List.append_nil]⟩
      intro x2 hx2
      obtain ⟨hx2i,hx2r,hx2p⟩ := hx2
      refine zQ 1 (zn (zs (cD (decide ((x2.i : Int) < (a3.t.length : Int))) (fun h5 => ?_) (fun h5 => ?_))))
      ·
       have h5d := of_decide_eq_true h5
       refine zk (zs (aB (zs (zr ?_))))
       obtain ⟨y7,hy7⟩ : ∃ y,(a3.t)[x2.i]? = some y := ⟨(a3.t)[x2.i]'oW,List.getElem?_eq_getElem _⟩
       obtain ⟨b7,f7,rfl,hU7⟩ := fA3.one hy7
       refine cH (Pt b7 (f7 + x2.i)) (fW _ 3 _ _ rfl b7 f7 a3.t.length u3 x2.i .i64 kR kR (by first | assumption | omega) kR kR) ?_
       refine zV b7 (f7 + x2.i) (I6 y7) hU7 3 (.tmp 54) _ Tryz.underlying3 rfl ?_
       refine zq 1 (zn (zr (cU [0,0,0,2,0,0] [(b2,1)] (dN 3 (fun b8 => ?_)))))
       refine fV x2.r x2.xs x2.m ([(bK b0 (eB p (some ⟨b1,f1,none⟩) l.length c) 29),(bK b2 y1.cs 38),(bK b6 [(Sl b7 f7 a3.t.length u3),(I6 a3.c),(I6 a3.s.s),(St a3.s.l),(N6 a3.s.n),(N6 a3.s.v),(.slice y3 a3.p.length v3),(.slice z3 a3.r.length w3)] 96),(bK b8 [(I6 1),(I6 y1.n),(I6 y7)] 153)] ++ σF) 153 119 3 24 1 kR hx2r.ok (.tmp 56) (.tmp 62) rfl kR b8 0 1 [(I6 1),(I6 y1.n),(I6 y7)] kR (fun W hM => cW hM 3 b8 [(I6 1),(I6 y1.n),(I6 y7)] 153 kR) rfl (List.all_eq_true.1 kR) (by decide) (by unfold maxLen; omega) oW kR kR kR kR kR (fun r9 hr9 => ?_)
       refine zq 1 (zn (zr (zq 1 (eV 64 ((x2.i : Int) + 1) (zq 1 (zn ?_))))))
       refine nx ⟨x2.i + 1,r9,(x2.xs ++ [(I6 1),(I6 y1.n),(I6 y7)]),(x2.m + 1),x2.L ++ [(⟨1,y1.n,y7⟩,[(I6 1),(I6 y1.n),(I6 y7)])],V3⟩ ?_ ?_ (d := fun _ h => Mem.sub (List.Sublist.append (List.Sublist.append (List.sublist_append_left _ _) (List.Sublist.refl _)) (List.Sublist.refl _)) (h.eqv (show _ = (((([(bK b0 (eB p (some ⟨b1,f1,none⟩) l.length c) 29),(bK b2 y1.cs 38),(bK b6 [(Sl b7 f7 a3.t.length u3),(I6 a3.c),(I6 a3.s.s),(St a3.s.l),(N6 a3.s.n),(N6 a3.s.v),(.slice y3 a3.p.length v3),(.slice z3 a3.r.length w3)] 96)] : aF) ++ ([(bK b8 [(I6 1),(I6 y1.n),(I6 y7)] 153)] : aF)) ++ (σF)) ++ (r9.B 153 (x2.xs ++ [(I6 1),(I6 y1.n),(I6 y7)]))) from by kernel_rfl)))
       · exact ⟨by show x2.i + 1 ≤ _; omega,RwR.snoc hx2r rfl hr9,by show x2.m + 1 = x.m + (x2.i + 1); omega,by rw [List.map_append,hx2p.2,show opsOf 1 y1.n (a3.t.take (x2.i + 1)) = opsOf 1 y1.n (a3.t.take x2.i) ++ [⟨1,y1.n,y7⟩] from eX _ hy7,List.append_assoc]; rfl⟩
       · show a3.t.length - (x2.i + 1) < a3.t.length - x2.i; omega
      ·
       have h5d := of_decide_eq_false h5
       refine aU (zr (zq 1 (eV 65 ((x.i : Int) + 1) (zq 1 (zn ?_)))))
       refine nx ⟨x.i + 1,x2.r,x2.xs,x2.m,x2.L,V3⟩ ?_ ?_ (d := fun _ h => Mem.sub (List.Sublist.append (List.Sublist.append (List.sublist_append_left _ _) (List.Sublist.refl _)) (List.Sublist.refl _)) (h.eqv (show _ = (((([(bK b0 (eB p (some ⟨b1,f1,none⟩) l.length c) 29)] : aF) ++ ([(bK b2 y1.cs 38),(bK b6 [(.slice x3 a3.t.length u3),(I6 a3.c),(I6 a3.s.s),(St a3.s.l),(N6 a3.s.n),(N6 a3.s.v),(.slice y3 a3.p.length v3),(.slice z3 a3.r.length w3)] 96)] : aF)) ++ (σF)) ++ (x2.r.B 153 x2.xs)) from by kernel_rfl)))
       · exact ⟨by show x.i + 1 ≤ _; omega,(View.le_trans hxl hV3),hx2r,by show x2.m ≤ 16 * (x.i + 1); omega,by show qR (x2.L.map Prod.fst) (lS 11 1 1 (fun x => eK se 2 x.n) (l.drop (x.i + 1))) = _; rw [hx2p.2,List.take_of_length_le oW,aDT hy1 (by rw [h1,h2]; rfl) hq3 h4,hxp]⟩
       · show l.length - (x.i + 1) < l.length - x.i; omega
    ·
     refine aED (fun W hM => lH eA y1.d W hM.view (hE.le hxl) (by have := hdl y1 (List.mem_of_getElem? hy1); omega)) (fun v10 V10 hV10 hP10 => ?_)
     have hq10 := Option.not_isSome_iff_eq_none.1 (by rw [h3]; exact Bool.false_ne_true)
     rw [hq10] at hP10
     obtain rfl := hP10
     refine zq 3 (dN 2 (fun b13 => ?_))
     refine aY 2 b13 (zq 1 (zn (zs (zQ 8 (zn (dF (zQ 2 (zn (aA (aH [10,11] [S0,(I6 2)] (fun W' hM => ?_)))))))))))
     have hz : lS 11 1 1 (fun x => eK se 2 x.n) l = none := qN hxp (aAI hy1 (by rw [h1,h2]; rfl) (.inl hq10))
     rw [hz]
     exact mP (hM.eqv (show _ = (([(bK b0 (eB p (some ⟨b1,f1,none⟩) l.length c) 29),(bK b2 y1.cs 38),(b13,.cells [S0,(I6 0),(I6 0),(St []),(U6 0),(U6 0),S0,S0].toArray 96 (0,0))] : aF) ++ σF) ++ (x.r.B 153 x.xs) from by kernel_rfl)) (View.le_trans hxl hV10) ⟨rfl,rfl⟩
 ·
  have h0d := of_decide_eq_false h0
  refine aU (zQ 3 (zn (aA (aH [10,11] [(x.r.V x.m),(I6 0)] (fun W' hM => ?_)))))
  have hz : lS 11 1 1 (fun x => eK se 2 x.n) l = some (x.L.map Prod.fst) := aCy (by rw [← hxp,cY oW]; rfl)
  rw [hz]
  have hm9 : x.m = (x.L.map Prod.fst).length := by rw [List.length_map]; exact hxr.m
  have hr9 : RwR OpR 3 View.no x.r x.xs x.m x.L := hxr.opAny
  rw [hm9] at hr9
  exact oJ (hM.eqv (show _ = (([(bK b0 (eB p a l.length c) 29)] : aF) ++ σF) ++ (x.r.B 153 x.xs) from by kernel_rfl)) hxl ⟨x.r,x.xs,x.L,by show Value.tuple #[x.r.V x.m,.int .i64 0] = _; rw [← hm9],rfl,hr9,rfl⟩
end Go.Proofs.YtcdjakemdlinhaaGreatDoor.Sx
