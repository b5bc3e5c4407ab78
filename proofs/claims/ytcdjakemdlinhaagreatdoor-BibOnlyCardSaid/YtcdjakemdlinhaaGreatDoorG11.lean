/-
  Several texts in one: Sco1 Sco2 Bcb1 Bcb2 Rfb1 Rfb2 Lbw Lbs Lbl Lbx Opb Opc Egn2 Egs1 Sct Bib1.
  Conditions: named at each.
-/
import Derived.Test.YtcdjakemdlinhaaGreatDoorG10
set_option maxHeartbeats 16000000
set_option linter.unusedSimpArgs false
set_option linter.unusedVariables false
set_option linter.unusedSectionVars false
namespace Go.Proofs.YtcdjakemdlinhaaGreatDoor.Sx
open Go.ChangeShapes Go.WideShapes Go.ChangeAt Go.RowKit Go.Deep
theorem sH {p : Pr} {l : List Bk} (h : aZ p l = 0) : aO p = 0 ∧ ∀ x ∈ l, aG x = 0 := by
 unfold aZ aAB at h
 split at h
 · next h1 => rw [show ([], eO p l).2 = eO p l from rfl] at h; rw [h] at h1; cases h1
 ·
  next hp =>
  have hp0 : eO p l = 0 := by simpa using hp
  unfold eO at hp0
  split at hp0
  · next h1 => rw [hp0] at h1; cases h1
  · next h1 => exact ⟨by simpa using h1, aHx hp0⟩
theorem iK {l : List Bk} {t : Int} (h : (aJ l t).2 = true) : (aJ l t).1 ∈ l := by
 unfold aJ at h ⊢
 split
 · next x hx => exact List.mem_of_find?_eq_some hx
 · next hx => rw [hx] at h; cases h
def aFm (scope : Int) : Bool := if decide (scope ≥ 0) then decide (scope < 8) else false
theorem aIr (scope : Int) (w : World) : CP 99 #[.int .i64 scope] w (Ret (.bool (aFm scope)) w) := by
 refine dK 9 Tryz.func99 ?_
 refine zQ 1 (zn (zQ 3 (aK 5 (decide (scope ≥ 0)) (fun h0 => ?_) (fun h0 => ?_))))
 ·
  refine zq 4 (zn (aA (aH [2] [(.bool (decide (scope < 8)))] (fun W' hM => ?_))))
  exact ⟨by simp only [cG,aFm,h0,bs,bQ,reduceIte],hM.below⟩
 ·
  refine zq 4 (zn (aA (aH [2] [(.bool false)] (fun W' hM => ?_))))
  exact ⟨by simp only [cG,aFm,h0,bs,bQ,reduceIte],hM.below⟩
theorem jG (x : Bk) : (aD x).length ≤ 27 := by
 unfold aD
 have h1 := (Itm.aW 0 x.t.toNat).2
 have h2 := (Itm.aW 0 x.n.toNat).2
 have h3 := (Itm.aW 0 x.f).2
 rw [List.length_append, List.length_append]
 omega
def aCF (A H S : List UInt8) (target scope : Int) : List UInt8 := ((Itm.aD 0 scope.toNat ++ (if (if (gC .i64 scope 1 != 0) then (target != 0) else false) then A else [])) ++ (if (gC .i64 scope 2 != 0) then H else [])) ++ (if (gC .i64 scope 4 != 0) then S else [])
theorem aIs (A H S D : List UInt8) (target scope : Int) (w : World) (h0 : 0 ≤ scope) (h8 : scope < 8) (hA : A.length ≤ 4000000) (hH : H.length ≤ 4000000) (hS : S.length ≤ 4000000) : CP 101 #[.agg #[.string (B A), .string (B H), .string (B S), .string (B D)], .int .i64 target, .int .i64 scope] w (Ret (.string (B (aCF A H S target scope))) w) := by
 have w1 : IntKind.u64.wrap scope = (scope.toNat : Int) := by have := u64_in (x := scope) oW oW; omega
 have n1 : scope.toNat < W64 := by unfold W64; omega
 have g1 := (Itm.aW 0 scope.toNat).2
 refine dK 37 Tryz.func101 ?_
 refine zs (zr (cJ (fun b0 => (zq 1 (zn (zQ 2 (eE 9 (U6 (IntKind.u64.wrap scope)) (N6 scope.toNat) (congrArg (Value.int .u64) w1) ?_)))))))
 refine dL (fun W hM => fQ 0 scope.toNat W oW (by first | assumption | (unfold W64; omega) | decide)) (zq 1 (zn (zs (zQ 4 (aK 14 ((gC .i64 scope 1) != 0) (fun h0 => ?_) (fun h0 => ?_))))))
 ·
  have h0d := bne_iff_ne.1 h0
  refine zq 3 (zn (cD (target != 0) (fun h1 => ?_) (fun h1 => ?_)))
  ·
   have h1d := bne_iff_ne.1 h1
   refine zr (cU [0,0,1] [(b0,1)] (cH (St ((Itm.aD 0 scope.toNat) ++ A)) (cE _ _ _ _ rfl (Itm.aD 0 scope.toNat) A kR kR oA) ?_))
   refine zq 1 (zn (zs (zQ 3 (zn (cD ((gC .i64 scope 2) != 0) (fun h2 => ?_) (fun h2 => ?_))))))
   ·
    have h2d := bne_iff_ne.1 h2
    refine zr (cU [0,0,1] [(b0,1)] (cH (St (((Itm.aD 0 scope.toNat) ++ A) ++ H)) (cE _ _ _ _ rfl ((Itm.aD 0 scope.toNat) ++ A) H kR kR oA) ?_))
    refine zq 1 (zn (zs (zQ 3 (zn (cD ((gC .i64 scope 4) != 0) (fun h3 => ?_) (fun h3 => ?_))))))
    ·
     have h3d := bne_iff_ne.1 h3
     refine zr (cU [0,0,1] [(b0,1)] (cH (St ((((Itm.aD 0 scope.toNat) ++ A) ++ H) ++ S)) (cE _ _ _ _ rfl (((Itm.aD 0 scope.toNat) ++ A) ++ H) S kR kR oA) ?_))
     refine zq 1 (zn (zQ 2 (zn (aA (aH [6] [(St ((((Itm.aD 0 scope.toNat) ++ A) ++ H) ++ S))] (fun W' hM => ?_))))))
     exact ⟨by simp only [cG,aCF,h0,h1,h2,h3,bs,bQ,reduceIte,List.append_nil],hM.below⟩
    ·
     refine zk (zQ 2 (zn (aA (aH [6] [(St (((Itm.aD 0 scope.toNat) ++ A) ++ H))] (fun W' hM => ?_)))))
     exact ⟨by simp only [cG,aCF,h0,h1,h2,h3,bs,bQ,reduceIte,List.append_nil],hM.below⟩
   ·
    have h2d := bne_eq_false_iff_eq.1 h2
    refine zk (zs (zQ 3 (zn (cD ((gC .i64 scope 4) != 0) (fun h4 => ?_) (fun h4 => ?_)))))
    ·
     have h4d := bne_iff_ne.1 h4
     refine zr (cU [0,0,1] [(b0,1)] (cH (St (((Itm.aD 0 scope.toNat) ++ A) ++ S)) (cE _ _ _ _ rfl ((Itm.aD 0 scope.toNat) ++ A) S kR kR oA) ?_))
     refine zq 1 (zn (zQ 2 (zn (aA (aH [6] [(St (((Itm.aD 0 scope.toNat) ++ A) ++ S))] (fun W' hM => ?_))))))
     exact ⟨by simp only [cG,aCF,h0,h1,h2,h4,bs,bQ,reduceIte,List.append_nil],hM.below⟩
    ·
     refine zk (zQ 2 (zn (aA (aH [6] [(St ((Itm.aD 0 scope.toNat) ++ A))] (fun W' hM => ?_)))))
     exact ⟨by simp only [cG,aCF,h0,h1,h2,h4,bs,bQ,reduceIte,List.append_nil],hM.below⟩
  ·
   have h1d := bne_eq_false_iff_eq.1 h1
   refine zk (zs (zQ 3 (zn (cD ((gC .i64 scope 2) != 0) (fun h5 => ?_) (fun h5 => ?_)))))
   ·
    have h5d := bne_iff_ne.1 h5
    refine zr (cU [0,0,1] [(b0,1)] (cH (St ((Itm.aD 0 scope.toNat) ++ H)) (cE _ _ _ _ rfl (Itm.aD 0 scope.toNat) H kR kR oA) ?_))
    refine zq 1 (zn (zs (zQ 3 (zn (cD ((gC .i64 scope 4) != 0) (fun h6 => ?_) (fun h6 => ?_))))))
    ·
     have h6d := bne_iff_ne.1 h6
     refine zr (cU [0,0,1] [(b0,1)] (cH (St (((Itm.aD 0 scope.toNat) ++ H) ++ S)) (cE _ _ _ _ rfl ((Itm.aD 0 scope.toNat) ++ H) S kR kR oA) ?_))
     refine zq 1 (zn (zQ 2 (zn (aA (aH [6] [(St (((Itm.aD 0 scope.toNat) ++ H) ++ S))] (fun W' hM => ?_))))))
     exact ⟨by simp only [cG,aCF,h0,h1,h5,h6,bs,bQ,reduceIte,List.append_nil],hM.below⟩
    ·
     refine zk (zQ 2 (zn (aA (aH [6] [(St ((Itm.aD 0 scope.toNat) ++ H))] (fun W' hM => ?_)))))
     exact ⟨by simp only [cG,aCF,h0,h1,h5,h6,bs,bQ,reduceIte,List.append_nil],hM.below⟩
   ·
    have h5d := bne_eq_false_iff_eq.1 h5
    refine zk (zs (zQ 3 (zn (cD ((gC .i64 scope 4) != 0) (fun h7 => ?_) (fun h7 => ?_)))))
    ·
     have h7d := bne_iff_ne.1 h7
     refine zr (cU [0,0,1] [(b0,1)] (cH (St ((Itm.aD 0 scope.toNat) ++ S)) (cE _ _ _ _ rfl (Itm.aD 0 scope.toNat) S kR kR oA) ?_))
     refine zq 1 (zn (zQ 2 (zn (aA (aH [6] [(St ((Itm.aD 0 scope.toNat) ++ S))] (fun W' hM => ?_))))))
     exact ⟨by simp only [cG,aCF,h0,h1,h5,h7,bs,bQ,reduceIte,List.append_nil],hM.below⟩
    ·
     refine zk (zQ 2 (zn (aA (aH [6] [(St (Itm.aD 0 scope.toNat))] (fun W' hM => ?_)))))
     exact ⟨by simp only [cG,aCF,h0,h1,h5,h7,bs,bQ,reduceIte,List.append_nil],hM.below⟩
 ·
  have h0d := bne_eq_false_iff_eq.1 h0
  refine zq 3 (zn (dE (zk (zs (zQ 3 (zn (cD ((gC .i64 scope 2) != 0) (fun h8 => ?_) (fun h8 => ?_))))))))
  ·
   have h8d := bne_iff_ne.1 h8
   refine zr (cU [0,0,1] [(b0,1)] (cH (St ((Itm.aD 0 scope.toNat) ++ H)) (cE _ _ _ _ rfl (Itm.aD 0 scope.toNat) H kR kR oA) ?_))
   refine zq 1 (zn (zs (zQ 3 (zn (cD ((gC .i64 scope 4) != 0) (fun h9 => ?_) (fun h9 => ?_))))))
   ·
    have h9d := bne_iff_ne.1 h9
    refine zr (cU [0,0,1] [(b0,1)] (cH (St (((Itm.aD 0 scope.toNat) ++ H) ++ S)) (cE _ _ _ _ rfl ((Itm.aD 0 scope.toNat) ++ H) S kR kR oA) ?_))
    refine zq 1 (zn (zQ 2 (zn (aA (aH [6] [(St (((Itm.aD 0 scope.toNat) ++ H) ++ S))] (fun W' hM => ?_))))))
    exact ⟨by simp only [cG,aCF,h0,h8,h9,bs,bQ,reduceIte,List.append_nil],hM.below⟩
   ·
    refine zk (zQ 2 (zn (aA (aH [6] [(St ((Itm.aD 0 scope.toNat) ++ H))] (fun W' hM => ?_)))))
    exact ⟨by simp only [cG,aCF,h0,h8,h9,bs,bQ,reduceIte,List.append_nil],hM.below⟩
  ·
   have h8d := bne_eq_false_iff_eq.1 h8
   refine zk (zs (zQ 3 (zn (cD ((gC .i64 scope 4) != 0) (fun h10 => ?_) (fun h10 => ?_)))))
   ·
    have h10d := bne_iff_ne.1 h10
    refine zr (cU [0,0,1] [(b0,1)] (cH (St ((Itm.aD 0 scope.toNat) ++ S)) (cE _ _ _ _ rfl (Itm.aD 0 scope.toNat) S kR kR oA) ?_))
    refine zq 1 (zn (zQ 2 (zn (aA (aH [6] [(St ((Itm.aD 0 scope.toNat) ++ S))] (fun W' hM => ?_))))))
    exact ⟨by simp only [cG,aCF,h0,h10,h8,bs,bQ,reduceIte,List.append_nil],hM.below⟩
   ·
    refine zk (zQ 2 (zn (aA (aH [6] [(St (Itm.aD 0 scope.toNat))] (fun W' hM => ?_)))))
    exact ⟨by simp only [cG,aCF,h0,h10,h8,bs,bQ,reduceIte,List.append_nil],hM.below⟩
theorem aAa {s : Int} (h : (!(aFm s)) = false) : 0 ≤ s ∧ s < 8 := by
 unfold aFm at h
 by_cases h1 : s ≥ 0
 ·
  rw [if_pos (by simpa using h1)] at h
  exact ⟨h1, by simpa using h⟩
 ·
  rw [if_neg (by simpa using h1)] at h
  cases h
theorem aIY {s : Int} (h : aFm s = true) : 0 ≤ s ∧ s < 8 := aAa (by rw [h]; rfl)
def rdA (p : Pr) (l : List Bk) (target : Int) : List UInt8 := if target != 0 && !(aJ l target).2 then [] else if aO p != 0 then [] else dB p.bare
def rdH (p : Pr) (l : List Bk) (target : Int) : List UInt8 := if target != 0 && !(aJ l target).2 then [] else if aO p != 0 then [] else if target == 0 then [] else if aG (aJ l target).1 != 0 then [] else aD (aJ l target).1
def rdS (p : Pr) (l : List Bk) (target : Int) (sec : Bk) : List UInt8 := if target != 0 && !(aJ l target).2 then [] else if aO p != 0 then [] else if target != 0 && aG (aJ l target).1 != 0 then [] else if aG sec != 0 then [] else aD sec
def rdD (p : Pr) (l : List Bk) (target : Int) : List UInt8 := if target != 0 && !(aJ l target).2 then [] else if aO p != 0 then [] else if target == 0 then dB p.bare else if aG (aJ l target).1 != 0 then dB p.bare else Itm.aD 2 (aJ l target).1.d.length ++ (aJ l target).1.d
def rdZ (p : Pr) (l : List Bk) (target : Int) (sec : Bk) : Int := if target != 0 && !(aJ l target).2 then 15 else if aO p != 0 then aO p else if target != 0 && aG (aJ l target).1 != 0 then aG (aJ l target).1 else aG sec
theorem aEU (p : Pr) (l : List Bk) (a : Option Addr) (c : Nat) (target : Int) (sec : Bk) (w : World) {U : View} (hU : See U w) (hp : p.ok) (hl : cX U a l) (hs : sec.ok) : CP 100 #[bnV p a l.length c, .int .i64 target, sec.V] w (Ret (.tuple #[.agg #[.string (B (rdA p l target)), .string (B (rdH p l target)), .string (B (rdS p l target sec)), .string (B (rdD p l target))], .int .i64 (rdZ p l target sec)]) w) := by
 refine eG 61 Tryz.func100 hU ?_
 refine zs (zr (cJ (fun b0 => (cJ (fun b1 => (cJ (fun b2 => (zq 1 (zn (zB [1,0] [(b0,20)] (dA 64 #[(bnV p a l.length c),(I6 target)] (.tuple #[(.agg #[(I6 (aJ l target).1.t),(I6 (aJ l target).1.n),(N6 (aJ l target).1.f),(I6 (aJ l target).1.c),(St (aJ l target).1.d)]),(.bool (aJ l target).2)]) (fun W hM => lB p l _ _ target W hM.view hl) ?_)))))))))))
 refine zq 3 (cJ (fun b3 => (aY 3 b3 (zq 1 (zn (zs (zQ 3 (aK 18 (target != 0) (fun h0 => ?_) (fun h0 => ?_)))))))))
 ·
  have h0d := bne_iff_ne.1 h0
  refine zq 3 (zn (cD (!(aJ l target).2) (fun h1 => ?_) (fun h1 => ?_)))
  ·
   refine zB [3] [(b2,4)] (aY 2 b2 (zq 1 (zn (aA (dU [3,0] [(b2,4)] [(.agg #[(St []),(St []),(St []),(St [])]),(I6 15)] (fun W' hM => ?_))))))
   have hne : (target == 0) = false := by simpa using h0
   exact ⟨by simp only [cG,rdA,rdH,rdS,rdD,rdZ,hne,h0,h1,bs,bQ,reduceIte]; try rfl,hM.below⟩
  ·
   refine zk (zs (zB [0,1] [(b0,19)] ?_))
   rcases Bool.eq_false_or_eq_true ((aO p) != 0) with h2 | h2
   ·
    have h2d := bne_iff_ne.1 h2
    refine dL (fun W hM => aDR p W hp h2) (zq 4 (aY 2 b2 (zq 1 (zn (zQ 2 (zn (gP ((aO p) != 0) h2 ?_)))))))
    refine zB [3,0] [(b2,4)] (aY 2 b2 (zq 1 (zn (aA (dU [3,0] [(b2,4)] [(.agg #[(St []),(St []),(St []),(St [])]),(I6 (aO p))] (fun W' hM => ?_))))))
    have hne : (target == 0) = false := by simpa using h0
    exact ⟨by simp only [cG,rdA,rdH,rdS,rdD,rdZ,hne,h0,h1,h2,bs,bQ,reduceIte]; try rfl,hM.below⟩
   ·
    have h2d := bne_eq_false_iff_eq.1 h2
    refine dL (fun W hM => aCe p W hp (by simpa using h2)) (zq 4 (aY 2 b2 (zq 1 (zn (zQ 2 (zn (dE (zk (zB [0,3,0] [(b2,1)] (aY 2 b2 (zn (zs (zQ 2 (zn (gP (target != 0) h0 ?_)))))))))))))))
    refine zs (zB [4] [(b3,5)] ?_)
    rcases Bool.eq_false_or_eq_true ((aG (aJ l target).1) != 0) with h3 | h3
    ·
     have h3d := bne_iff_ne.1 h3
     refine dL (fun W hM => aAh (aJ l target).1 W h3) (zq 4 (aY 2 b2 (zq 1 (zn (zQ 2 (zn (gP ((aG (aJ l target).1) != 0) h3 ?_)))))))
     refine zB [3,0] [(b2,4)] (aY 2 b2 (zq 1 (zn (aA (dU [3,0] [(b2,4)] [(.agg #[(St (dB p.bare)),(St []),(St []),(St (dB p.bare))]),(I6 (aG (aJ l target).1))] (fun W' hM => ?_))))))
     have hne : (target == 0) = false := by simpa using h0
     exact ⟨by simp only [cG,rdA,rdH,rdS,rdD,rdZ,hne,h0,h1,h2,h3,bs,bQ,reduceIte]; try rfl,hM.below⟩
    ·
     have h3d := bne_eq_false_iff_eq.1 h3
     refine dA 142 #[(.agg #[(I6 (aJ l target).1.t),(I6 (aJ l target).1.n),(N6 (aJ l target).1.f),(I6 (aJ l target).1.c),(St (aJ l target).1.d)])] (.tuple #[(St (aD (aJ l target).1)),(I6 0)]) (fun W hM => rN (aJ l target).1 W (hl.ok _ (iK (by have := h1; simpa using this))) (by simpa using h3)) ?_
     refine zq 4 (aY 2 b2 (zq 1 (zn (zQ 2 (zn (dE (zk (zr (cU [0,4] [(b3,1)] (dA 143 #[(St (aJ l target).1.d)] (St (Itm.aD 2 (aJ l target).1.d.length ++ (aJ l target).1.d)) (fun W hM => aCA (aJ l target).1.d W (hl.ok _ (iK (by have := h1; simpa using this))).d) ?_))))))))))
     refine zq 1 (aY 2 b2 (zn (zB [2] [(b1,5)] ?_)))
     rcases Bool.eq_false_or_eq_true ((aG sec) != 0) with h4 | h4
     ·
      have h4d := bne_iff_ne.1 h4
      refine dL (fun W hM => aAh sec W h4) (zq 4 (aY 2 b2 (zq 1 (zn (zB [3,0] [(b2,4)] (aY 2 b2 (zq 1 (zn (aA (dU [3,0] [(b2,4)] [(.agg #[(St (dB p.bare)),(St (aD (aJ l target).1)),(St []),(St (Itm.aD 2 (aJ l target).1.d.length ++ (aJ l target).1.d))]),(I6 (aG sec))] (fun W' hM => ?_)))))))))))
      have hne : (target == 0) = false := by simpa using h0
      exact ⟨by simp only [cG,rdA,rdH,rdS,rdD,rdZ,hne,h0,h1,h2,h3,h4,bs,bQ,reduceIte]; try rfl,hM.below⟩
     ·
      have h4d := bne_eq_false_iff_eq.1 h4
      refine dL (fun W hM => rN sec W hs (by simpa using h4)) (zq 4 (aY 2 b2 (zq 1 (zn (zB [3,0] [(b2,4)] (aY 2 b2 (zq 1 (zn (aA (dU [3,0] [(b2,4)] [(.agg #[(St (dB p.bare)),(St (aD (aJ l target).1)),(St (aD sec)),(St (Itm.aD 2 (aJ l target).1.d.length ++ (aJ l target).1.d))]),(I6 0)] (fun W' hM => ?_)))))))))))
      have hne : (target == 0) = false := by simpa using h0
      have hz0 : aG sec = 0 := by simpa using h4
      exact ⟨by simp only [cG,rdA,rdH,rdS,rdD,rdZ,hne,h0,h1,h2,h3,h4,hz0,bs,bQ,reduceIte]; try rfl,hM.below⟩
 ·
  have h0d := bne_eq_false_iff_eq.1 h0
  refine zq 3 (zn (dE (zk (zs (zB [0,1] [(b0,19)] ?_)))))
  rcases Bool.eq_false_or_eq_true ((aO p) != 0) with h5 | h5
  ·
   have h5d := bne_iff_ne.1 h5
   refine dL (fun W hM => aDR p W hp h5) (zq 4 (aY 2 b2 (zq 1 (zn (zQ 2 (zn (gP ((aO p) != 0) h5 ?_)))))))
   refine zB [3,0] [(b2,4)] (aY 2 b2 (zq 1 (zn (aA (dU [3,0] [(b2,4)] [(.agg #[(St []),(St []),(St []),(St [])]),(I6 (aO p))] (fun W' hM => ?_))))))
   have heq : (target == 0) = true := by simpa using h0
   exact ⟨by simp only [cG,rdA,rdH,rdS,rdD,rdZ,heq,h0,h5,bs,bQ,reduceIte]; try rfl,hM.below⟩
  ·
   have h5d := bne_eq_false_iff_eq.1 h5
   refine dL (fun W hM => aCe p W hp (by simpa using h5)) (zq 4 (aY 2 b2 (zq 1 (zn (zQ 2 (zn (dE (zk (zB [0,3,0] [(b2,1)] (aY 2 b2 (zn (zs (zQ 2 (zn (eS (target != 0) h0 ?_)))))))))))))))
   refine zk (zB [2] [(b1,5)] ?_)
   rcases Bool.eq_false_or_eq_true ((aG sec) != 0) with h6 | h6
   ·
    have h6d := bne_iff_ne.1 h6
    refine dL (fun W hM => aAh sec W h6) (zq 4 (aY 2 b2 (zq 1 (zn (zB [3,0] [(b2,4)] (aY 2 b2 (zq 1 (zn (aA (dU [3,0] [(b2,4)] [(.agg #[(St (dB p.bare)),(St []),(St []),(St (dB p.bare))]),(I6 (aG sec))] (fun W' hM => ?_)))))))))))
    have heq : (target == 0) = true := by simpa using h0
    exact ⟨by simp only [cG,rdA,rdH,rdS,rdD,rdZ,heq,h0,h5,h6,bs,bQ,reduceIte]; try rfl,hM.below⟩
   ·
    have h6d := bne_eq_false_iff_eq.1 h6
    refine dL (fun W hM => rN sec W hs (by simpa using h6)) (zq 4 (aY 2 b2 (zq 1 (zn (zB [3,0] [(b2,4)] (aY 2 b2 (zq 1 (zn (aA (dU [3,0] [(b2,4)] [(.agg #[(St (dB p.bare)),(St []),(St (aD sec)),(St (dB p.bare))]),(I6 0)] (fun W' hM => ?_)))))))))))
    have heq : (target == 0) = true := by simpa using h0
    have hz0 : aG sec = 0 := by simpa using h6
    exact ⟨by simp only [cG,rdA,rdH,rdS,rdD,rdZ,heq,h0,h5,h6,hz0,bs,bQ,reduceIte]; try rfl,hM.below⟩
theorem aIC {p : Pr} {l : List Bk} {target : Int} : (rdA p l target).length ≤ 4000 := by
 unfold rdA
 split
 · exact Nat.zero_le _
 ·
  split
  · exact Nat.zero_le _
  · next h => exact rD (aAg (by simpa using h))
theorem aIB {p : Pr} {l : List Bk} {target : Int} : (rdH p l target).length ≤ 27 := by
 unfold rdH
 (repeat' split) <;> first | exact Nat.zero_le _ | exact jG _
theorem aIA {p : Pr} {l : List Bk} {target : Int} {sec : Bk} : (rdS p l target sec).length ≤ 27 := by
 unfold rdS
 (repeat' split) <;> first | exact Nat.zero_le _ | exact jG _
theorem aJm {p : Pr} {l : List Bk} {target : Int} (hl : ∀ x ∈ l, x.d.length ≤ 100000) : (rdD p l target).length ≤ 200000 := by
 unfold rdD
 split
 · exact Nat.zero_le _
 ·
  next h0 =>
  split
  · exact Nat.zero_le _
  ·
   next h =>
   have hb := rD (aAg (p := p) (by simpa using h))
   split
   · omega
   ·
    next ht =>
    split
    · omega
    ·
     have h1 := (Itm.aW 2 (aJ l target).1.d.length).2
     have h2 := hl _ (iK (by
      have ht' : target ≠ 0 := by simpa using ht
      simpa [ht'] using h0))
     rw [List.length_append]
     omega
def bsZ (p : Pr) (l : List Bk) (target : Int) (sec : Bk) (scope : Int) : Int := if !(aFm scope) then 1 else if target == 0 then 8 else rdZ p l target sec
def bsB (p : Pr) (l : List Bk) (target : Int) (sec : Bk) (scope : Int) : List UInt8 := if bsZ p l target sec scope != 0 then [] else aCF (rdA p l target) (rdH p l target) (rdS p l target sec) target scope
theorem mU {p : Pr} {l : List Bk} {kind : Int} {ts : List Int} (h : (aDw p l kind ts != 0) = false) : aZ p l = 0 := by
 have h0 : aDw p l kind ts = 0 := by simpa using h
 unfold aDw at h0
 split at h0
 · next h1 => rw [h0] at h1; cases h1
 · next h1 => exact (mM (by simpa using h1)).1
structure lQ (U : View) (a : Option Addr) (l : List Bk) : Prop where
 at_ : ∀ i x, l[i]? = some x → ∃ b f, a = some ⟨b, f, none⟩ ∧ U.range b (f + i * 5) x.cs
 f : ∀ x ∈ l, x.f < W64
 len : l.length ≤ maxLen
theorem lQ.le {U V : View} (h : View.le U V) {a : Option Addr} {l : List Bk} (hl : lQ U a l) : lQ V a l :=
 ⟨fun i x hx => by obtain ⟨b, f, e, hr⟩ := hl.at_ i x hx; exact ⟨b, f, e, View.range_le h hr⟩, hl.f, hl.len⟩
theorem lQ.up {U : View} {a : Option Addr} {l : List Bk} (h : lQ U a l) (h1 : l.length ≤ 1000) (h2 : ∀ x ∈ l, x.d.length ≤ 100000) : cX U a l :=
 ⟨h.at_, fun x hx => ⟨h.f x hx, by have := h2 x hx; unfold R47; omega⟩, by unfold R47; omega⟩
theorem lM (p : Pr) (l : List Bk) (a : Option Addr) (c : Nat) (num : Int) (w : World) {U : View} (hU : See U w) (hl : lQ U a l) : CP 9 #[bnV p a l.length c, .int .i64 num] w (Ret (.int .i64 (gH l num)) w) := by
 have hlen := hl.len
 unfold maxLen at hlen
 refine eG 22 Tryz.func9 hU ?_
 refine zs (zr (cJ (fun b0 => (zq 1 (zn (zs (zQ 1 (zn (aB (gX (α := Nat) (fun x => [1,2,4,5].zip [(I6 num),(Pt b0 0),(I6 0),(L6 x)]) (fun x => U) (fun x => [(bK b0 (eB p a l.length c) 29)]) (fun x => x ≤ l.length ∧ aDa num x (l.drop x) = gH l num) (fun x => l.length - x) 0 ?_ ?_))))))))))
 · exact ⟨Nat.zero_le _,rfl⟩
 intro x hx
 obtain ⟨hx1,hx2⟩ := hx
 refine zs (zB [0,0,1,0,0] [(b0,1)] (zn (cD (decide ((x : Int) < (l.length : Int))) (fun h0 => ?_) (fun h0 => ?_))))
 ·
  have h0d := of_decide_eq_true h0
  refine zk (zs (aB (zB [0,1,0] [(b0,1)] ?_)))
  obtain ⟨y1,hy1⟩ : ∃ y,(l)[x]? = some y := ⟨(l)[x]'oW,List.getElem?_eq_getElem _⟩
  obtain ⟨b1,f1,rfl,hU1⟩ := hl.at_ x y1 hy1
  refine cH (Pt b1 (f1 + x * 5)) (rIx 38 rfl b1 f1 l.length c x 5) ?_
  refine zq 1 (zV b1 (f1 + x * 5 + 1) (I6 y1.n) (hU1 1 _ rfl) 3 (.tmp 17) _ Tryz.underlying3 rfl ?_)
  refine zq 2 (zn (cD (y1.n == num) (fun h1 => ?_) (fun h1 => ?_)))
  ·
   have h1d := eq_of_beq h1
   refine zQ 2 (zn (aA (aH [4] [(L6 x)] (fun W' hM => ?_))))
   refine ⟨?_,hM.below⟩
   rw [← hx2,jE hy1,if_pos h1]
   rfl
  ·
   have h1d := beq_eq_false_iff_ne.1 h1
   refine zk (zr (zq 2 (eV 12 ((x : Int) + 1) (zq 1 (zn ?_)))))
   refine nx (x + 1) ?_ ?_
   · exact ⟨by omega,by rw [← hx2,jE hy1,if_neg (by rw [h1]; exact Bool.false_ne_true)]⟩
   · show l.length - (x + 1) < l.length - x; omega
 ·
  have h0d := of_decide_eq_false h0
  refine aU (zQ 1 (zn (aA (aH [4] [(I6 (-1))] (fun W' hM => ?_)))))
  refine ⟨?_,hM.below⟩
  rw [← hx2,cY oW]
  rfl
def aBw (e : Ei) : Bool := decide ((e.l.length : Int) ≤ 100)
theorem qH (e : Ei) (w : World) : CP 32 #[e.V] w (Ret (.bool (aBw e)) w) := by
 refine dK 7 Tryz.func32 ?_
 refine zs (zr (cJ (fun b0 => (zq 1 (zn (zB [0,1,0,0,0] [(b0,1)] (zn (aA (jJ 2)))))))))
def aDf (p : Pr) : Bool := aBw p.dst && aBw p.src && aBw p.rpt
theorem aB8 (p : Pr) (w : World) : CP 79 #[p.V] w (Ret (.bool (aDf p)) w) := by
 refine dK 16 Tryz.func79 ?_
 refine zs (zr (cJ (fun b0 => (zq 1 (zn (zB [0,1] [(b0,4)] (dL (fun W hM => qH p.dst W) (zq 1 (aK 6 (aBw p.dst) (fun h0 => ?_) (fun h0 => ?_))))))))))
 ·
  refine cU [0,1] [(b0,4)] (dL (fun W hM => qH p.src W) (zq 2 (aK 11 (aBw p.src) (fun h1 => ?_) (fun h1 => ?_))))
  ·
   refine cU [0,1] [(b0,4)] (dL (fun W hM => qH p.rpt W) (zq 2 (zn (aA (aH [2] [(.bool (aBw p.rpt))] (fun W' hM => ?_))))))
   exact ⟨by simp only [cG,aDf,h0,h1,bs,bQ,reduceIte],hM.below⟩
  ·
   refine zq 5 (zn (aA (aH [2] [(.bool false)] (fun W' hM => ?_))))
   exact ⟨by simp only [cG,aDf,h0,h1,bs,bQ,reduceIte],hM.below⟩
 ·
  refine zq 10 (zn (aA (aH [2] [(.bool false)] (fun W' hM => ?_))))
  exact ⟨by simp only [cG,aDf,h0,bs,bQ,reduceIte],hM.below⟩
def aHz (x : Bk) : Bool := decide ((x.d.length : Int) > 4100)
def aAC (p : Pr) (l : List Bk) : Bool := (l.take 30).all (fun x => !aHz x) && decide ((l.length : Int) ≤ 20) && aDf p
theorem aCt {l : List Bk} {i : Nat} {y : Bk} (h : l[i]? = some y) (hi : i < 30) : ((l.drop i).take (30 - i)).all (fun x => !aHz x) = (!aHz y && ((l.drop (i + 1)).take (30 - (i + 1))).all (fun x => !aHz x)) := by
 rw [cK h, show 30 - i = (30 - (i + 1)) + 1 by omega, List.take_succ_cons, List.all_cons]
theorem aGW (p : Pr) (l : List Bk) (a : Option Addr) (c : Nat) (w : World) {U : View} (hU : See U w) (hl : lQ U a l) : CP 31 #[bnV p a l.length c] w (Ret (.bool (aAC p l)) w) := by
 have hlen := hl.len
 unfold maxLen at hlen
 refine eG 32 Tryz.func31 hU ?_
 refine zs (zr (cJ (fun b0 => (zq 1 (zn (zs (zQ 1 (zn (aB (gX (α := Nat) (fun x => [1,2,3].zip [(Pt b0 0),(.bool false),(L6 x)]) (fun x => U) (fun x => [(bK b0 (eB p a l.length c) 29)]) (fun x => x ≤ l.length ∧ x ≤ 30 ∧ ((l.drop x).take (30 - x)).all (fun x => !aHz x) = (l.take 30).all (fun x => !aHz x)) (fun x => l.length - x) 0 ?_ ?_))))))))))
 · exact ⟨Nat.zero_le _,Nat.zero_le _,rfl⟩
 intro x hx
 obtain ⟨hx1,hx2,hx3⟩ := hx
 refine zs (zB [0,0,1,0,0,0] [(b0,1)] (aK 9 (decide ((x : Int) < (l.length : Int))) (fun h0 => ?_) (fun h0 => ?_)))
 ·
  have h0d := of_decide_eq_true h0
  refine zq 3 (zn (cD (decide ((x : Int) < 30)) (fun h1 => ?_) (fun h1 => ?_)))
  ·
   have h1d := of_decide_eq_true h1
   refine zk (zs (aB (zB [0,1,0] [(b0,1)] ?_)))
   obtain ⟨y1,hy1⟩ : ∃ y,(l)[x]? = some y := ⟨(l)[x]'oW,List.getElem?_eq_getElem _⟩
   obtain ⟨b1,f1,rfl,hU1⟩ := hl.at_ x y1 hy1
   refine cH (Pt b1 (f1 + x * 5)) (rIx 38 rfl b1 f1 l.length c x 5) ?_
   refine zq 1 (zV b1 (f1 + x * 5 + 4) (St y1.d) (hU1 4 _ rfl) 9 (.tmp 19) _ Tryz.underlying9 rfl ?_)
   refine zq 2 (zn (cD (decide ((((y1.d).length : Nat) : Int) > 4100)) (fun h2 => ?_) (fun h2 => ?_)))
   ·
    have h2d := of_decide_eq_true h2
    refine zQ 1 (zn (aA (aH [2] [(.bool false)] (fun W' hM => ?_))))
    refine ⟨?_,hM.below⟩
    unfold aAC
    have hb : aHz y1 = true := h2
    rw [← hx3,aCt hy1 oW,hb]
    rfl
   ·
    have h2d := of_decide_eq_false h2
    refine zk (zr (zq 2 (eV 14 ((x : Int) + 1) (zq 1 (zn ?_)))))
    refine nx (x + 1) ?_ ?_
    · exact ⟨by omega,by omega,by have hb : aHz y1 = false := h2; rw [← hx3,aCt hy1 oW,hb]; rfl⟩
    · show l.length - (x + 1) < l.length - x; omega
  ·
   have h1d := of_decide_eq_false h1
   refine aU (zB [0,1,0,0,0] [(b0,1)] (aK 27 (decide ((l.length : Int) ≤ 20)) (fun h3 => ?_) (fun h3 => ?_)))
   ·
    have h3d := of_decide_eq_true h3
    refine cU [0,1] [(b0,19)] (dL (fun W hM => aB8 p W) (zq 2 (zn (aA (aH [2] [(.bool (aDf p))] (fun W' hM => ?_))))))
    refine ⟨?_,hM.below⟩
    unfold aAC
    have h30 : (l.take 30).all (fun x => !aHz x) = true := by
     rw [← hx3]
     by_cases h9 : x = l.length
     · rw [cY oW,List.take_nil]; rfl
     · rw [show 30 - x = 0 by omega,List.take_zero]; rfl
    simp only [cG,h30,h3,bs,bQ,reduceIte]
   ·
    have h3d := of_decide_eq_false h3
    refine zq 5 (zn (aA (aH [2] [(.bool false)] (fun W' hM => ?_))))
    refine ⟨?_,hM.below⟩
    unfold aAC
    have h30 : (l.take 30).all (fun x => !aHz x) = true := by
     rw [← hx3]
     by_cases h9 : x = l.length
     · rw [cY oW,List.take_nil]; rfl
     · rw [show 30 - x = 0 by omega,List.take_zero]; rfl
    simp only [cG,h30,h3,bs,bQ,reduceIte]
 ·
  have h0d := of_decide_eq_false h0
  refine zq 3 (zn (dE (aU (zB [0,1,0,0,0] [(b0,1)] (aK 27 (decide ((l.length : Int) ≤ 20)) (fun h4 => ?_) (fun h4 => ?_))))))
  ·
   have h4d := of_decide_eq_true h4
   refine cU [0,1] [(b0,19)] (dL (fun W hM => aB8 p W) (zq 2 (zn (aA (aH [2] [(.bool (aDf p))] (fun W' hM => ?_))))))
   refine ⟨?_,hM.below⟩
   unfold aAC
   have h30 : (l.take 30).all (fun x => !aHz x) = true := by
    rw [← hx3]
    by_cases h9 : x = l.length
    · rw [cY oW,List.take_nil]; rfl
    · rw [show 30 - x = 0 by omega,List.take_zero]; rfl
   simp only [cG,h30,h4,bs,bQ,reduceIte]
  ·
   have h4d := of_decide_eq_false h4
   refine zq 5 (zn (aA (aH [2] [(.bool false)] (fun W' hM => ?_))))
   refine ⟨?_,hM.below⟩
   unfold aAC
   have h30 : (l.take 30).all (fun x => !aHz x) = true := by
    rw [← hx3]
    by_cases h9 : x = l.length
    · rw [cY oW,List.take_nil]; rfl
    · rw [show 30 - x = 0 by omega,List.take_zero]; rfl
   simp only [cG,h30,h4,bs,bQ,reduceIte]
theorem lP {p : Pr} {l : List Bk} (h : aAC p l = true) : l.length ≤ 20 ∧ (∀ x ∈ l, x.d.length ≤ 4100) := by
 unfold aAC at h
 simp only [Bool.and_eq_true, decide_eq_true_eq] at h
 refine ⟨by omega, fun x hx => ?_⟩
 have := List.all_eq_true.1 h.1.1 x (by rw [List.take_of_length_le oW]; exact hx)
 unfold aHz at this
 simp only [Bool.not_eq_true', decide_eq_false_iff_not] at this
 omega
def aNO (p : Pr) (l : List Bk) (v : Value) (V : View) : Prop := ∃ a c, v = bnV p a l.length c ∧ cX V a l ∧ l.length ≤ c
theorem aE4 {U : View} {b f : Nat} {xs : List Value} (h : U.range b f xs) (n : Nat) : U.range b (f + n) (xs.drop n) := fun j v hv => by
 rw [List.getElem?_drop] at hv
 have := h (n + j) v hv
 rwa [← Nat.add_assoc] at this
theorem aE3 {U : View} {b f : Nat} {xs : List Value} (h : U.range b f xs) (n : Nat) : U.range b f (xs.take n) := fun j v hv => by
 rw [List.getElem?_take] at hv
 split at hv
 · exact h j v hv
 · cases hv
theorem rM {V : View} {a : Option Addr} {xs : List Value} {l : List Bk} (h : qB V a xs) (e : xs = l.flatMap Bk.cs) (hok : ∀ x ∈ l, x.ok) (hlen : l.length ≤ R47) : cX V a l := by
 subst e
 cases l with
 | nil => exact ⟨fun i x hx => by simp at hx, hok, hlen⟩
 | cons y r =>
  obtain ⟨b, e, hr⟩ := h.at_ (by rw [List.flatMap_cons]; simp [Bk.cs])
  subst e
  exact cX.of hr hok hlen
def jK (l m : List Bk) (i k : Nat) : List Bk := l.take i ++ m ++ l.drop (i + k)
theorem aAp (p : Pr) (l m : List Bk) (i k : Nat) (a aM : Option Addr) (c cM : Nat) (w : World) {U : View} (hU : See U w) (hl : cX U a l) (hm : cX U aM m) (hne : l ≠ []) (hik : i + k ≤ l.length) (hc : l.length ≤ c) (hsm : l.length ≤ 1000000) (hsm2 : m.length ≤ 1000000) : CP 12 #[bnV p a l.length c, .int .i64 (i : Int), .int .i64 (k : Int), .slice aM m.length cM] w (rO w U (aNO p (jK l m i k))) := by
 obtain ⟨b,f,rfl,hr⟩ := hl.openR hne
 have hokL : ∀ x ∈ jK l m i k,x.ok := fun x hx => by
  unfold jK at hx
  rcases List.mem_append.1 hx with hx | hx
  ·
   rcases List.mem_append.1 hx with hx | hx
   · exact hl.ok x (List.mem_of_mem_take hx)
   · exact hm.ok x hx
  · exact hl.ok x (List.mem_of_mem_drop hx)
 have hLn : (jK l m i k).length = i + m.length + (l.length - (i + k)) := by
  unfold jK
  rw [List.length_append,List.length_append,List.length_take,List.length_drop]
  omega
 have ht9 : (l.take i).length = i := by rw [List.length_take]; omega
 have hd9 : (l.drop (i + k)).length = l.length - (i + k) := List.length_drop
 have hrA : U.range b f ((l.take i).flatMap Bk.cs) := by rw [← sZ]; exact aE3 hr _
 have hrB : U.range b (f + (i + k) * 5) ((l.drop (i + k)).flatMap Bk.cs) := by rw [← tD]; exact aE4 hr _
 refine eG 31 Tryz.func12 hU ?_
 refine zs (zr (cJ (fun b0 => (cJ (fun b1 => (zn (zQ 1 (zn (zB [0,0,1,0] [(b0,1)] (cH (Sl b f i c) (gD 27 38 (.tmp 12) none (some (.tmp 13)) none rfl b f l.length c 0 i c 5 i c f kR eR eR eR (by decide) oW oW oW oW oW (by first | rfl | (split <;> omega)) Tryz.underlying27 kR) ?_))))))))))
 rcases Bool.eq_false_or_eq_true (decide (0 < i)) with h0 | h0
 ·
  have h0d := of_decide_eq_true h0
  refine fV Rw.nil [] 0 [(bK b0 (eB p (some ⟨b,f,none⟩) l.length c) 29),(b1,.cells Z20.toArray 29 (0,0))] 38 27 5 48 i aN5 (Rw.ok_nil 5) (.tmp 10) (.tmp 14) rfl kR b f c ((l.take i).flatMap Bk.cs) kR (fun W hM => View.range_of hrA hM.view) ((mJ _).trans (congrArg (· * 5) ht9)) (mI _) (of_decide_eq_true h0) (by unfold maxLen; omega) oW kR kR kR kR kR (fun r2 hr2 => ?_)
  refine zq 1 (zn (zQ 2 ?_))
  rcases Bool.eq_false_or_eq_true (decide (0 < m.length)) with h1 | h1
  ·
   have h1d := of_decide_eq_true h1
   obtain ⟨bM,fM,rfl,hrM⟩ := hm.openR (by rintro rfl; have := of_decide_eq_true h1; simp at this)
   refine tT 2 38 27 48 m.length cM hr2 (fun W hM => View.range_of hrM hM.view) ((mJ _).trans (congrArg (· * 5) (Eq.refl m.length))) (mI _) (of_decide_eq_true h1) (fun r3 hr3 => ?_)
   refine zq 1 (zn (zB [0,0,1,0,0,0] [(b0,1)] (eE 24 (I6 (IntKind.i64.wrap ((i : Int) + (k : Int)))) (L6 (i + k)) (congrArg (Value.int .i64) (by rw [IntWalk.i64_in _ oW]; omega)) ?_)))
   refine cH (.slice (some ⟨b,(if c = (i + k) then f else f + (i + k) * 5),none⟩) (l.length - (i + k)) (c - (i + k))) (gD 27 38 (.tmp 21) (some (.tmp 24)) none none rfl b f l.length c (i + k) l.length c 5 (l.length - (i + k)) (c - (i + k)) (if c = (i + k) then f else f + (i + k) * 5) kR eR eR eR (by decide) oW oW oW oW oW (by first | rfl | (split <;> omega)) Tryz.underlying27 kR) ?_
   rcases Bool.eq_false_or_eq_true (decide (0 < (l.length - (i + k)))) with h2 | h2
   ·
    have h2d := of_decide_eq_true h2
    refine tT 2 38 27 48 (l.length - (i + k)) (c - (i + k)) hr3 (fun W hM => View.range_of (show U.range b (if c = (i + k) then f else f + (i + k) * 5) _ by rw [if_neg (by have := of_decide_eq_true h2; omega)]; exact hrB) hM.view) ((mJ _).trans (congrArg (· * 5) hd9)) (mI _) (of_decide_eq_true h2) (fun r4 hr4 => ?_)
    refine zq 1 (zn (zs (zr ?_)))
    refine pL r4 ((([] ++ ((l.take i).flatMap Bk.cs)) ++ (m.flatMap Bk.cs)) ++ ((l.drop (i + k)).flatMap Bk.cs)) 5 (((0 + i) + m.length) + (l.length - (i + k))) [(bK b0 (eB p (some ⟨b,f,none⟩) l.length c) 29),(b1,.cells Z20.toArray 29 (0,0))] 38 kR hr4 (fun a5 c5 V5 hV5 hR5 hE5 => ?_)
    rw [hE5]
    refine cU [0,1,0,0] [(b0,19)] (aY 1 b1 (zn (aA (dU [2] [(b1,20)] [(.agg #[(N6 p.f),(I6 p.c),(I6 p.dst.s),(St p.dst.l),(N6 p.dst.n),(N6 p.dst.v),(I6 p.src.s),(St p.src.l),(N6 p.src.n),(N6 p.src.v),(I6 p.rpt.s),(St p.rpt.l),(N6 p.rpt.n),(N6 p.rpt.v),(N6 p.time),(N6 p.seq),(N6 p.life),(N6 p.off),(N6 p.tot),(.slice a5 (((0 + i) + m.length) + (l.length - (i + k))) c5)])] (fun W' hM => ?_)))))
    have hN : (((0 + i) + m.length) + (l.length - (i + k))) = (jK l m i k).length := by rw [hLn]; omega
    obtain ⟨aC,cC,hvC,hcC⟩ := Rw.formC hr4
    rw [hE5] at hvC
    simp only [Value.slice.injEq,true_and] at hvC
    refine cF hM hV5 ⟨a5,c5,?_,rM hR5 (by unfold jK; simp only [List.flatMap_append,List.flatMap_nil,List.nil_append,List.append_nil]) hokL (by rw [hLn]; unfold R47; omega),by rw [hvC.2,← hN]; exact hcC⟩
    rw [← hN]
    rfl
   ·
    have h2d := of_decide_eq_false h2
    have hz6 : (l.length - (i + k)) = 0 := by have := of_decide_eq_false h2; omega
    have hn6 : (l.drop (i + k)) = [] := List.length_eq_zero_iff.1 (hd9.trans hz6)
    obtain ⟨xa6,xc6,xv6,xh6⟩ := Rw.formC hr3
    refine cH ((r3.V ((0 + i) + m.length))) (fun W => (pQ 27 38 5 _ _ rfl xa6 (some ⟨b,(if c = (i + k) then f else f + (i + k) * 5),none⟩) ((0 + i) + m.length) xc6 (c - (i + k)) (zX xv6) (zE hz6) xh6 Tryz.underlying27 kR W).trans (by rw [xv6])) ?_
    refine zq 1 (zn (zs (zr ?_)))
    refine pL r3 (([] ++ ((l.take i).flatMap Bk.cs)) ++ (m.flatMap Bk.cs)) 5 ((0 + i) + m.length) [(bK b0 (eB p (some ⟨b,f,none⟩) l.length c) 29),(b1,.cells Z20.toArray 29 (0,0))] 38 kR hr3 (fun a7 c7 V7 hV7 hR7 hE7 => ?_)
    rw [hE7]
    refine cU [0,1,0,0] [(b0,19)] (aY 1 b1 (zn (aA (dU [2] [(b1,20)] [(.agg #[(N6 p.f),(I6 p.c),(I6 p.dst.s),(St p.dst.l),(N6 p.dst.n),(N6 p.dst.v),(I6 p.src.s),(St p.src.l),(N6 p.src.n),(N6 p.src.v),(I6 p.rpt.s),(St p.rpt.l),(N6 p.rpt.n),(N6 p.rpt.v),(N6 p.time),(N6 p.seq),(N6 p.life),(N6 p.off),(N6 p.tot),(.slice a7 ((0 + i) + m.length) c7)])] (fun W' hM => ?_)))))
    have hN : ((0 + i) + m.length) = (jK l m i k).length := by rw [hLn]; omega
    obtain ⟨aC,cC,hvC,hcC⟩ := Rw.formC hr3
    rw [hE7] at hvC
    simp only [Value.slice.injEq,true_and] at hvC
    refine cF hM hV7 ⟨a7,c7,?_,rM hR7 (by unfold jK; simp only [hn6,List.flatMap_append,List.flatMap_nil,List.nil_append,List.append_nil]) hokL (by rw [hLn]; unfold R47; omega),by rw [hvC.2,← hN]; exact hcC⟩
    rw [← hN]
    rfl
  ·
   have h1d := of_decide_eq_false h1
   have hz8 : m.length = 0 := by have := of_decide_eq_false h1; omega
   have hn8 : m = [] := List.length_eq_zero_iff.1 ((Eq.refl m.length).trans hz8)
   obtain ⟨xa8,xc8,xv8,xh8⟩ := Rw.formC hr2
   refine cH ((r2.V (0 + i))) (fun W => (pQ 27 38 5 _ _ rfl xa8 aM (0 + i) xc8 cM (zX xv8) (zE hz8) xh8 Tryz.underlying27 kR W).trans (by rw [xv8])) ?_
   refine zq 1 (zn (zB [0,0,1,0,0,0] [(b0,1)] (eE 24 (I6 (IntKind.i64.wrap ((i : Int) + (k : Int)))) (L6 (i + k)) (congrArg (Value.int .i64) (by rw [IntWalk.i64_in _ oW]; omega)) ?_)))
   refine cH (.slice (some ⟨b,(if c = (i + k) then f else f + (i + k) * 5),none⟩) (l.length - (i + k)) (c - (i + k))) (gD 27 38 (.tmp 21) (some (.tmp 24)) none none rfl b f l.length c (i + k) l.length c 5 (l.length - (i + k)) (c - (i + k)) (if c = (i + k) then f else f + (i + k) * 5) kR eR eR eR (by decide) oW oW oW oW oW (by first | rfl | (split <;> omega)) Tryz.underlying27 kR) ?_
   rcases Bool.eq_false_or_eq_true (decide (0 < (l.length - (i + k)))) with h3 | h3
   ·
    have h3d := of_decide_eq_true h3
    refine tT 2 38 27 48 (l.length - (i + k)) (c - (i + k)) hr2 (fun W hM => View.range_of (show U.range b (if c = (i + k) then f else f + (i + k) * 5) _ by rw [if_neg (by have := of_decide_eq_true h3; omega)]; exact hrB) hM.view) ((mJ _).trans (congrArg (· * 5) hd9)) (mI _) (of_decide_eq_true h3) (fun r9 hr9 => ?_)
    refine zq 1 (zn (zs (zr ?_)))
    refine pL r9 (([] ++ ((l.take i).flatMap Bk.cs)) ++ ((l.drop (i + k)).flatMap Bk.cs)) 5 ((0 + i) + (l.length - (i + k))) [(bK b0 (eB p (some ⟨b,f,none⟩) l.length c) 29),(b1,.cells Z20.toArray 29 (0,0))] 38 kR hr9 (fun a10 c10 V10 hV10 hR10 hE10 => ?_)
    rw [hE10]
    refine cU [0,1,0,0] [(b0,19)] (aY 1 b1 (zn (aA (dU [2] [(b1,20)] [(.agg #[(N6 p.f),(I6 p.c),(I6 p.dst.s),(St p.dst.l),(N6 p.dst.n),(N6 p.dst.v),(I6 p.src.s),(St p.src.l),(N6 p.src.n),(N6 p.src.v),(I6 p.rpt.s),(St p.rpt.l),(N6 p.rpt.n),(N6 p.rpt.v),(N6 p.time),(N6 p.seq),(N6 p.life),(N6 p.off),(N6 p.tot),(.slice a10 ((0 + i) + (l.length - (i + k))) c10)])] (fun W' hM => ?_)))))
    have hN : ((0 + i) + (l.length - (i + k))) = (jK l m i k).length := by rw [hLn]; omega
    obtain ⟨aC,cC,hvC,hcC⟩ := Rw.formC hr9
    rw [hE10] at hvC
    simp only [Value.slice.injEq,true_and] at hvC
    refine cF hM hV10 ⟨a10,c10,?_,rM hR10 (by unfold jK; simp only [hn8,List.flatMap_append,List.flatMap_nil,List.nil_append,List.append_nil]) hokL (by rw [hLn]; unfold R47; omega),by rw [hvC.2,← hN]; exact hcC⟩
    rw [← hN]
    rfl
   ·
    have h3d := of_decide_eq_false h3
    have hz11 : (l.length - (i + k)) = 0 := by have := of_decide_eq_false h3; omega
    have hn11 : (l.drop (i + k)) = [] := List.length_eq_zero_iff.1 (hd9.trans hz11)
    obtain ⟨xa11,xc11,xv11,xh11⟩ := Rw.formC hr2
    refine cH ((r2.V (0 + i))) (fun W => (pQ 27 38 5 _ _ rfl xa11 (some ⟨b,(if c = (i + k) then f else f + (i + k) * 5),none⟩) (0 + i) xc11 (c - (i + k)) (zX xv11) (zE hz11) xh11 Tryz.underlying27 kR W).trans (by rw [xv11])) ?_
    refine zq 1 (zn (zs (zr ?_)))
    refine pL r2 ([] ++ ((l.take i).flatMap Bk.cs)) 5 (0 + i) [(bK b0 (eB p (some ⟨b,f,none⟩) l.length c) 29),(b1,.cells Z20.toArray 29 (0,0))] 38 kR hr2 (fun a12 c12 V12 hV12 hR12 hE12 => ?_)
    rw [hE12]
    refine cU [0,1,0,0] [(b0,19)] (aY 1 b1 (zn (aA (dU [2] [(b1,20)] [(bnV p a12 (0 + i) c12)] (fun W' hM => ?_)))))
    have hN : (0 + i) = (jK l m i k).length := by rw [hLn]; omega
    obtain ⟨aC,cC,hvC,hcC⟩ := Rw.formC hr2
    rw [hE12] at hvC
    simp only [Value.slice.injEq,true_and] at hvC
    refine cF hM hV12 ⟨a12,c12,?_,rM hR12 (by unfold jK; simp only [hn8,hn11,List.flatMap_append,List.flatMap_nil,List.nil_append,List.append_nil]) hokL (by rw [hLn]; unfold R47; omega),by rw [hvC.2,← hN]; exact hcC⟩
    rw [← hN]
    rfl
 ·
  have h0d := of_decide_eq_false h0
  have hz13 : i = 0 := by have := of_decide_eq_false h0; omega
  have hn13 : (l.take i) = [] := List.length_eq_zero_iff.1 (ht9.trans hz13)
  refine cH (S0) (by exact pQ 27 38 5 _ _ rfl none (some ⟨b,f,none⟩) 0 0 c kR (zE hz13) (Nat.le_refl _) Tryz.underlying27 kR) ?_
  refine zq 1 (zn (zQ 2 ?_))
  rcases Bool.eq_false_or_eq_true (decide (0 < m.length)) with h4 | h4
  ·
   have h4d := of_decide_eq_true h4
   obtain ⟨bM,fM,rfl,hrM⟩ := hm.openR (by rintro rfl; have := of_decide_eq_true h4; simp at this)
   refine fV Rw.nil [] 0 [(bK b0 (eB p (some ⟨b,f,none⟩) l.length c) 29),(b1,.cells Z20.toArray 29 (0,0))] 38 27 5 48 m.length aN5 (Rw.ok_nil 5) (.tmp 16) (.tmp 17) rfl kR bM fM cM (m.flatMap Bk.cs) kR (fun W hM => View.range_of hrM hM.view) ((mJ _).trans (congrArg (· * 5) (Eq.refl m.length))) (mI _) (of_decide_eq_true h4) (by unfold maxLen; omega) oW kR kR kR kR kR (fun r14 hr14 => ?_)
   refine zq 1 (zn (zB [0,0,1,0,0,0] [(b0,1)] (eE 24 (I6 (IntKind.i64.wrap ((i : Int) + (k : Int)))) (L6 (i + k)) (congrArg (Value.int .i64) (by rw [IntWalk.i64_in _ oW]; omega)) ?_)))
   refine cH (.slice (some ⟨b,(if c = (i + k) then f else f + (i + k) * 5),none⟩) (l.length - (i + k)) (c - (i + k))) (gD 27 38 (.tmp 21) (some (.tmp 24)) none none rfl b f l.length c (i + k) l.length c 5 (l.length - (i + k)) (c - (i + k)) (if c = (i + k) then f else f + (i + k) * 5) kR eR eR eR (by decide) oW oW oW oW oW (by first | rfl | (split <;> omega)) Tryz.underlying27 kR) ?_
   rcases Bool.eq_false_or_eq_true (decide (0 < (l.length - (i + k)))) with h5 | h5
   ·
    have h5d := of_decide_eq_true h5
    refine tT 2 38 27 48 (l.length - (i + k)) (c - (i + k)) hr14 (fun W hM => View.range_of (show U.range b (if c = (i + k) then f else f + (i + k) * 5) _ by rw [if_neg (by have := of_decide_eq_true h5; omega)]; exact hrB) hM.view) ((mJ _).trans (congrArg (· * 5) hd9)) (mI _) (of_decide_eq_true h5) (fun r15 hr15 => ?_)
    refine zq 1 (zn (zs (zr ?_)))
    refine pL r15 (([] ++ (m.flatMap Bk.cs)) ++ ((l.drop (i + k)).flatMap Bk.cs)) 5 ((0 + m.length) + (l.length - (i + k))) [(bK b0 (eB p (some ⟨b,f,none⟩) l.length c) 29),(b1,.cells Z20.toArray 29 (0,0))] 38 kR hr15 (fun a16 c16 V16 hV16 hR16 hE16 => ?_)
    rw [hE16]
    refine cU [0,1,0,0] [(b0,19)] (aY 1 b1 (zn (aA (dU [2] [(b1,20)] [(.agg #[(N6 p.f),(I6 p.c),(I6 p.dst.s),(St p.dst.l),(N6 p.dst.n),(N6 p.dst.v),(I6 p.src.s),(St p.src.l),(N6 p.src.n),(N6 p.src.v),(I6 p.rpt.s),(St p.rpt.l),(N6 p.rpt.n),(N6 p.rpt.v),(N6 p.time),(N6 p.seq),(N6 p.life),(N6 p.off),(N6 p.tot),(.slice a16 ((0 + m.length) + (l.length - (i + k))) c16)])] (fun W' hM => ?_)))))
    have hN : ((0 + m.length) + (l.length - (i + k))) = (jK l m i k).length := by rw [hLn]; omega
    obtain ⟨aC,cC,hvC,hcC⟩ := Rw.formC hr15
    rw [hE16] at hvC
    simp only [Value.slice.injEq,true_and] at hvC
    refine cF hM hV16 ⟨a16,c16,?_,rM hR16 (by unfold jK; simp only [hn13,List.flatMap_append,List.flatMap_nil,List.nil_append,List.append_nil]) hokL (by rw [hLn]; unfold R47; omega),by rw [hvC.2,← hN]; exact hcC⟩
    rw [← hN]
    rfl
   ·
    have h5d := of_decide_eq_false h5
    have hz17 : (l.length - (i + k)) = 0 := by have := of_decide_eq_false h5; omega
    have hn17 : (l.drop (i + k)) = [] := List.length_eq_zero_iff.1 (hd9.trans hz17)
    obtain ⟨xa17,xc17,xv17,xh17⟩ := Rw.formC hr14
    refine cH ((r14.V (0 + m.length))) (fun W => (pQ 27 38 5 _ _ rfl xa17 (some ⟨b,(if c = (i + k) then f else f + (i + k) * 5),none⟩) (0 + m.length) xc17 (c - (i + k)) (zX xv17) (zE hz17) xh17 Tryz.underlying27 kR W).trans (by rw [xv17])) ?_
    refine zq 1 (zn (zs (zr ?_)))
    refine pL r14 ([] ++ (m.flatMap Bk.cs)) 5 (0 + m.length) [(bK b0 (eB p (some ⟨b,f,none⟩) l.length c) 29),(b1,.cells Z20.toArray 29 (0,0))] 38 kR hr14 (fun a18 c18 V18 hV18 hR18 hE18 => ?_)
    rw [hE18]
    refine cU [0,1,0,0] [(b0,19)] (aY 1 b1 (zn (aA (dU [2] [(b1,20)] [(bnV p a18 (0 + m.length) c18)] (fun W' hM => ?_)))))
    have hN : (0 + m.length) = (jK l m i k).length := by rw [hLn]; omega
    obtain ⟨aC,cC,hvC,hcC⟩ := Rw.formC hr14
    rw [hE18] at hvC
    simp only [Value.slice.injEq,true_and] at hvC
    refine cF hM hV18 ⟨a18,c18,?_,rM hR18 (by unfold jK; simp only [hn13,hn17,List.flatMap_append,List.flatMap_nil,List.nil_append,List.append_nil]) hokL (by rw [hLn]; unfold R47; omega),by rw [hvC.2,← hN]; exact hcC⟩
    rw [← hN]
    rfl
  ·
   have h4d := of_decide_eq_false h4
   have hz19 : m.length = 0 := by have := of_decide_eq_false h4; omega
   have hn19 : m = [] := List.length_eq_zero_iff.1 ((Eq.refl m.length).trans hz19)
   refine cH (S0) (by exact pQ 27 38 5 _ _ rfl none aM 0 0 cM kR (zE hz19) (Nat.le_refl _) Tryz.underlying27 kR) ?_
   refine zq 1 (zn (zB [0,0,1,0,0,0] [(b0,1)] (eE 24 (I6 (IntKind.i64.wrap ((i : Int) + (k : Int)))) (L6 (i + k)) (congrArg (Value.int .i64) (by rw [IntWalk.i64_in _ oW]; omega)) ?_)))
   refine cH (.slice (some ⟨b,(if c = (i + k) then f else f + (i + k) * 5),none⟩) (l.length - (i + k)) (c - (i + k))) (gD 27 38 (.tmp 21) (some (.tmp 24)) none none rfl b f l.length c (i + k) l.length c 5 (l.length - (i + k)) (c - (i + k)) (if c = (i + k) then f else f + (i + k) * 5) kR eR eR eR (by decide) oW oW oW oW oW (by first | rfl | (split <;> omega)) Tryz.underlying27 kR) ?_
   rcases Bool.eq_false_or_eq_true (decide (0 < (l.length - (i + k)))) with h6 | h6
   ·
    have h6d := of_decide_eq_true h6
    refine fV Rw.nil [] 0 [(bK b0 (eB p (some ⟨b,f,none⟩) l.length c) 29),(b1,.cells Z20.toArray 29 (0,0))] 38 27 5 48 (l.length - (i + k)) aN5 (Rw.ok_nil 5) (.tmp 19) (.tmp 25) rfl kR b (if c = (i + k) then f else f + (i + k) * 5) (c - (i + k)) ((l.drop (i + k)).flatMap Bk.cs) kR (fun W hM => View.range_of (show U.range b (if c = (i + k) then f else f + (i + k) * 5) _ by rw [if_neg (by have := of_decide_eq_true h6; omega)]; exact hrB) hM.view) ((mJ _).trans (congrArg (· * 5) hd9)) (mI _) (of_decide_eq_true h6) (by unfold maxLen; omega) oW kR kR kR kR kR (fun r20 hr20 => ?_)
    refine zq 1 (zn (zs (zr ?_)))
    refine pL r20 ([] ++ ((l.drop (i + k)).flatMap Bk.cs)) 5 (0 + (l.length - (i + k))) [(bK b0 (eB p (some ⟨b,f,none⟩) l.length c) 29),(b1,.cells Z20.toArray 29 (0,0))] 38 kR hr20 (fun a21 c21 V21 hV21 hR21 hE21 => ?_)
    rw [hE21]
    refine cU [0,1,0,0] [(b0,19)] (aY 1 b1 (zn (aA (dU [2] [(b1,20)] [(.agg #[(N6 p.f),(I6 p.c),(I6 p.dst.s),(St p.dst.l),(N6 p.dst.n),(N6 p.dst.v),(I6 p.src.s),(St p.src.l),(N6 p.src.n),(N6 p.src.v),(I6 p.rpt.s),(St p.rpt.l),(N6 p.rpt.n),(N6 p.rpt.v),(N6 p.time),(N6 p.seq),(N6 p.life),(N6 p.off),(N6 p.tot),(.slice a21 (0 + (l.length - (i + k))) c21)])] (fun W' hM => ?_)))))
    have hN : (0 + (l.length - (i + k))) = (jK l m i k).length := by rw [hLn]; omega
    obtain ⟨aC,cC,hvC,hcC⟩ := Rw.formC hr20
    rw [hE21] at hvC
    simp only [Value.slice.injEq,true_and] at hvC
    refine cF hM hV21 ⟨a21,c21,?_,rM hR21 (by unfold jK; simp only [hn13,hn19,List.flatMap_append,List.flatMap_nil,List.nil_append,List.append_nil]) hokL (by rw [hLn]; unfold R47; omega),by rw [hvC.2,← hN]; exact hcC⟩
    rw [← hN]
    rfl
   ·
    have h6d := of_decide_eq_false h6
    have hz22 : (l.length - (i + k)) = 0 := by have := of_decide_eq_false h6; omega
    have hn22 : (l.drop (i + k)) = [] := List.length_eq_zero_iff.1 (hd9.trans hz22)
    refine cH (S0) (by exact pQ 27 38 5 _ _ rfl none (some ⟨b,(if c = (i + k) then f else f + (i + k) * 5),none⟩) 0 0 (c - (i + k)) kR (zE hz22) (Nat.le_refl _) Tryz.underlying27 kR) ?_
    refine zq 1 (zn (zB [0,1,0,0] [(b0,19)] (aY 1 b1 (zn (aA (dU [2] [(b1,20)] [(bnV p none 0 0)] (fun W' hM => ?_)))))))
    have hW : jK l m i k = [] := by unfold jK; simp only [hn13,hn19,hn22,List.append_nil]
    refine cF hM (View.le_refl _) ⟨none,0,?_,?_,?_⟩
    · rw [hW]; rfl
    · rw [hW]; exact cX.nil
    · rw [hW]; exact Nat.le_refl _
theorem aE5 (p : Pr) (l m : List Bk) (i k : Nat) (a aM : Option Addr) (c cM : Nat) (w : World) {U : View} (hU : See U w) (hl : cX U a l) (hm : cX U aM m) (hne : l ≠ []) (hik : i + k ≤ l.length) (hc : l.length ≤ c) (hsm : l.length ≤ 1000000) (hsm2 : m.length ≤ 1000000) : CP 12 #[bnV p a l.length c, .int .i64 (i : Int), .int .i64 (k : Int), .slice aM m.length cM] w (rO w U (aAQ p (jK l m i k))) :=
 (aAp p l m i k a aM c cM w hU hl hm hne hik hc hsm hsm2).mono fun e w' h => by
  obtain ⟨v, V', h1, h2, h3, h4, h5, a2, c2, h6, h7, _⟩ := h
  exact ⟨v, V', h1, h2, h3, h4, h5, a2, c2, h6, h7⟩
def tU : Pr := ⟨0, 0, ⟨2, [], 2, 0⟩, ⟨2, [], 1, 0⟩, ⟨1, [110, 111, 110, 101], 0, 0⟩, 5, 0, 100, 0, 0⟩
def aBL : Bk := ⟨1, 1, 0, 0, [104, 105]⟩
theorem aEI : aZ tU [aBL] = 0 := by kernel_rfl
theorem aFJ : aCg [aBL] = some [] := rfl
theorem aHT : aDZ tU [aBL] [] = 0 := by kernel_rfl
theorem aGF : jP tU [aBL] = 0 := by
 unfold jP
 rw [aEI, aFJ]
 exact aHT
theorem aHW : (gC .u64 (tU.f : Int) 1 != 0) = false := by kernel_rfl
theorem aHV : dX [aBL] = 2 := by kernel_rfl
theorem aLY : aX tU.src = true := by kernel_rfl
theorem aLK : tU.ok := by
 constructor <;> first | (constructor <;> decide) | decide
theorem Ch2.start {i j : Nat} {init : aF} {A1 A2 : Value → View → aF → Prop} {u : Nat → Value} {V : View} : Ch2 i j init A1 A2 (fun _ => false) u V init := by
 unfold Ch2
 simp
theorem Ch2.got {i j : Nat} {init : aF} {A1 A2 : Value → View → aF → Prop} {L : Nat → Bool} {u : Nat → Value} {V : View} {S : aF} (hj : L j = true) (h : Ch2 i j init A1 A2 L u V S) : A2 (u i) V S := by
 unfold Ch2 at h
 rw [if_pos hj] at h
 exact h
structure Ei.ok0 (e : Ei) : Prop where
 n : e.n < W64
 v : e.v < W64
structure Pr.ok0 (p : Pr) : Prop where
 f : p.f < W64
 dst : p.dst.ok0
 src : p.src.ok0
 rpt : p.rpt.ok0
 time : p.time < W64
 seq : p.seq < W64
 life : p.life < W64
 off : p.off < W64
 tot : p.tot < W64
theorem Ei.ok0.up {e : Ei} (h : e.ok0) (hf : aBw e = true) : e.ok := ⟨by unfold aBw at hf; have := of_decide_eq_true hf; unfold R47; omega, h.n, h.v⟩
theorem Pr.ok0.up {p : Pr} (h : p.ok0) (hf : aDf p = true) : p.ok := by
 unfold aDf at hf
 simp only [Bool.and_eq_true] at hf
 exact ⟨h.f, h.dst.up hf.1.1, h.src.up hf.1.2, h.rpt.up hf.2, h.time, h.seq, h.life, h.off, h.tot⟩
end Go.Proofs.YtcdjakemdlinhaaGreatDoor.Sx
namespace Go.Proofs.YtcdjakemdlinhaaGreatDoor.Sx
open Go.ChangeShapes Go.WideShapes Go.ChangeAt Go.RowKit
section
variable {H : Type} {enc : TypeId × Value → H} {W : World} {base : Nat} {v0 : Value} {d0 : DataW H} {p0 : List MemPlace}
theorem gY {m : Int} (h : (Lit.int .u64 m).wf = true) : ∃ k : Nat, m = (k : Int) ∧ k < W64 := by
 simp [Lit.wf, IntKind.min, IntKind.max, IntKind.signed, IntKind.bits] at h
 exact ⟨m.toNat, by omega, by unfold W64; omega⟩
def aMo : List TypeId := [22, 3, 3, 9, 22, 22, 3, 9, 22, 22, 3, 9, 22, 22, 22, 22, 22, 22, 22]
def aOl : List TypeId := [3, 3, 22, 3, 9]
theorem aIK {cs : List Value} (h : aKe (mD enc Tryz.prog W) aMo cs) : ∃ r : Pr, cs = r.cs ∧ r.ok0 := by
 obtain ⟨c0, _, rfl, h0, c1, _, rfl, h1, c2, _, rfl, h2, c3, _, rfl, h3, c4, _, rfl, h4, c5, _, rfl, h5, c6, _, rfl, h6, c7, _, rfl, h7, c8, _, rfl, h8, c9, _, rfl, h9, c10, _, rfl, h10, c11, _, rfl, h11, c12, _, rfl, h12, c13, _, rfl, h13, c14, _, rfl, h14, c15, _, rfl, h15, c16, _, rfl, h16, c17, _, rfl, h17, c18, _, rfl, h18, rfl⟩ := h
 obtain ⟨x0, rfl, w0⟩ := h0.int Tryz.underlying22
 obtain ⟨x1, rfl, _⟩ := h1.int Tryz.underlying3
 obtain ⟨x2, rfl, _⟩ := h2.int Tryz.underlying3
 obtain ⟨x3, rfl, _⟩ := h3.str Tryz.underlying9
 obtain ⟨x4, rfl, w4⟩ := h4.int Tryz.underlying22
 obtain ⟨x5, rfl, w5⟩ := h5.int Tryz.underlying22
 obtain ⟨x6, rfl, _⟩ := h6.int Tryz.underlying3
 obtain ⟨x7, rfl, _⟩ := h7.str Tryz.underlying9
 obtain ⟨x8, rfl, w8⟩ := h8.int Tryz.underlying22
 obtain ⟨x9, rfl, w9⟩ := h9.int Tryz.underlying22
 obtain ⟨x10, rfl, _⟩ := h10.int Tryz.underlying3
 obtain ⟨x11, rfl, _⟩ := h11.str Tryz.underlying9
 obtain ⟨x12, rfl, w12⟩ := h12.int Tryz.underlying22
 obtain ⟨x13, rfl, w13⟩ := h13.int Tryz.underlying22
 obtain ⟨x14, rfl, w14⟩ := h14.int Tryz.underlying22
 obtain ⟨x15, rfl, w15⟩ := h15.int Tryz.underlying22
 obtain ⟨x16, rfl, w16⟩ := h16.int Tryz.underlying22
 obtain ⟨x17, rfl, w17⟩ := h17.int Tryz.underlying22
 obtain ⟨x18, rfl, w18⟩ := h18.int Tryz.underlying22
 obtain ⟨n0, rfl, l0⟩ := gY w0
 obtain ⟨n4, rfl, l4⟩ := gY w4
 obtain ⟨n5, rfl, l5⟩ := gY w5
 obtain ⟨n8, rfl, l8⟩ := gY w8
 obtain ⟨n9, rfl, l9⟩ := gY w9
 obtain ⟨n12, rfl, l12⟩ := gY w12
 obtain ⟨n13, rfl, l13⟩ := gY w13
 obtain ⟨n14, rfl, l14⟩ := gY w14
 obtain ⟨n15, rfl, l15⟩ := gY w15
 obtain ⟨n16, rfl, l16⟩ := gY w16
 obtain ⟨n17, rfl, l17⟩ := gY w17
 obtain ⟨n18, rfl, l18⟩ := gY w18
 exact ⟨⟨n0, x1, ⟨x2, x3, n4, n5⟩, ⟨x6, x7, n8, n9⟩, ⟨x10, x11, n12, n13⟩, n14, n15, n16, n17, n18⟩, rfl, ⟨l0, ⟨l4, l5⟩, ⟨l8, l9⟩, ⟨l12, l13⟩, l14, l15, l16, l17, l18⟩⟩
theorem aNB {cs : List Value} (h : aKe (mD enc Tryz.prog W) aOl cs) : ∃ r : Bk, cs = r.cs ∧ r.f < W64 := by
 obtain ⟨c0, _, rfl, h0, c1, _, rfl, h1, c2, _, rfl, h2, c3, _, rfl, h3, c4, _, rfl, h4, rfl⟩ := h
 obtain ⟨x0, rfl, _⟩ := h0.int Tryz.underlying3
 obtain ⟨x1, rfl, _⟩ := h1.int Tryz.underlying3
 obtain ⟨x2, rfl, w2⟩ := h2.int Tryz.underlying22
 obtain ⟨x3, rfl, _⟩ := h3.int Tryz.underlying3
 obtain ⟨x4, rfl, _⟩ := h4.str Tryz.underlying9
 obtain ⟨n2, rfl, l2⟩ := gY w2
 exact ⟨⟨x0, x1, n2, x3, x4⟩, rfl, l2⟩
theorem aGx {ok : Bk → Prop} : ∀ {css : List (List Value)}, (∀ cs ∈ css, ∃ r : Bk, cs = r.cs ∧ ok r) → ∃ rs : List Bk, css = rs.map Bk.cs ∧ ∀ r ∈ rs, ok r
 | [], _ => ⟨[], rfl, fun r h => by cases h⟩
 | cs :: css, h => by
  obtain ⟨r, hr, hok⟩ := h cs (List.mem_cons_self ..)
  obtain ⟨rs, hrs, hoks⟩ := aGx (css := css) fun c hc => h c (List.mem_cons_of_mem _ hc)
  refine ⟨r :: rs, by rw [hr, hrs]; rfl, fun x hx => ?_⟩
  rcases List.mem_cons.1 hx with rfl | hx
  · exact hok
  · exact hoks x hx
theorem oV {α β : Type} {R : α → β → Prop} : ∀ {us vs : List α} {cs : List β}, aKe R (us ++ vs) cs → ∃ cs1 cs2, cs = cs1 ++ cs2 ∧ aKe R us cs1 ∧ aKe R vs cs2
 | [], vs, cs, h => ⟨[], cs, rfl, rfl, h⟩
 | u :: us, vs, cs, ⟨c, r, e, hr, ht⟩ => by
  obtain ⟨c1, c2, rfl, h1, h2⟩ := oV ht
  exact ⟨c :: c1, c2, by rw [e]; rfl, ⟨c, c1, rfl, hr, h1⟩, h2⟩
theorem aNC {v : Value} {l : List Bk} (h : aLU W v 5 (l.map Bk.cs)) (hf : ∀ x ∈ l, x.f < W64) : ∃ a c, v = .slice a l.length c ∧ lQ (aBT W) a l ∧ l.length ≤ c := by
 obtain ⟨hm, a, c, rfl, hc, _, hx⟩ := h
 rw [List.length_map] at hm hc
 refine ⟨a, c, by rw [List.length_map], ⟨fun i x hi => ?_, hf, hm⟩, hc⟩
 rcases hx with hx | ⟨b, o, rfl, _, hx⟩
 ·
  rw [List.map_eq_nil_iff.1 hx] at hi
  cases hi
 ·
  refine ⟨b, o, rfl, fun j u hu => ?_⟩
  have := hx i x.cs (by rw [List.getElem?_map, hi]; rfl) j u hu
  rw [show o + i * 5 + j = o + (i * 5 + j) by omega]
  exact this
set_option maxRecDepth 100000 in
theorem aJP {v : Value} (h : mD enc Tryz.prog W 27 v) : ∃ (l : List Bk) (a : Option Addr) (c : Nat), v = .slice a l.length c ∧ lQ (aBT W) a l ∧ l.length ≤ c := by
 obtain ⟨n, z, hz, hlt⟩ := h
 obtain ⟨css, hat, hall⟩ := aMg aOl hz hlt Tryz.underlying27 kR kR (by decide)
 obtain ⟨l, rfl, hok⟩ := aGx fun cs hcs => aNB (hall cs hcs)
 exact ⟨l, aNC hat hok⟩
end
section
variable {H : Type} {enc : TypeId × Value → H} {W : World} {base : Nat} {v0 : Value} {d0 : DataW H} {p0 : List MemPlace}
set_option maxRecDepth 100000 in
theorem aKW (hv : Value.okWide Tryz.prog W .any base 47 v0)
  (hr : DataW.Trod enc Tryz.prog W 0 (fun _ => true) true 47 v0 d0 p0) (hlt : ∀ p ∈ p0, p.block < W.heap.size) :
  ∃ (p : Pr) (l : List Bk) (a : Option Addr) (c : Nat) (q : Pr) (m : List Bk) (d : Option Addr) (g : Nat), v0 = .agg (eB p a l.length c ++ eB q d m.length g).toArray ∧ p.ok0 ∧ lQ (aBT W) a l ∧ q.ok0 ∧ lQ (aBT W) d m ∧ m.length ≤ g := by
 obtain ⟨cs, rfl, h⟩ := aDW ((aMo ++ [27]) ++ (aMo ++ [27])) hv hr hlt kR kR kR
 obtain ⟨c1, c2, rfl, h1, h2⟩ := oV h
 obtain ⟨c3, c4, rfl, h3, v, _, rfl, h4, rfl⟩ := oV h1
 obtain ⟨c5, c6, rfl, h5, u, _, rfl, h6, rfl⟩ := oV h2
 obtain ⟨p, rfl, hp⟩ := aIK h3
 obtain ⟨l, a, c, rfl, hl, hc⟩ := aJP h4
 obtain ⟨q, rfl, hq⟩ := aIK h5
 obtain ⟨m, d, g, rfl, hm, hg⟩ := aJP h6
 exact ⟨p, l, a, c, q, m, d, g, rfl, hp, hl, hq, hm, hg⟩
end
end Go.Proofs.YtcdjakemdlinhaaGreatDoor.Sx
namespace Go.Proofs.YtcdjakemdlinhaaGreatDoor.Sx
open Go.ChangeShapes Go.WideShapes Go.ChangeAt Go.RowKit Go.Deep
set_option maxHeartbeats 1600000 in
set_option maxRecDepth 100000 in
theorem aKz {s : cB} {o : Oper} (yt : TypeId) (x y : Operand) (ho : o.op = .binOp .eql 354 x y yt) (a1 b1 : Int) (a2 a3 a4 a5 a6 a7 b2 b3 b4 b5 b6 b7 : List UInt8)
  (hx : evS s x = some (.agg #[.int .i64 a1, .string (B a2), .string (B a3), .string (B a4), .string (B a5), .string (B a6), .string (B a7)])) (hy : evS s y = some (.agg #[.int .i64 b1, .string (B b2), .string (B b3), .string (B b4), .string (B b5), .string (B b6), .string (B b7)])) (W : World) :
  (execOp (ev s) o).run Tryz.prog W = .ok (.value (.bool (decide (a1 = b1 ∧ a2 = b2 ∧ a3 = b3 ∧ a4 = b4 ∧ a5 = b5 ∧ a6 = b6 ∧ a7 = b7)))) W := by
 unfold execOp
 simp only [ho, eF hx, eF hy]
 go_simp
 (repeat' split) <;> simp_all [aNP]
structure En where
 v : Int
 k : List UInt8
 nn : List UInt8
 wt : List UInt8
 t : List UInt8
 m : List UInt8
 g : List UInt8
def En.cs (e : En) : List Value := aMW e.v e.k e.nn e.wt e.t e.m e.g
def EnR (_ : View) (e : En) (cs : List Value) : Prop := cs = e.cs
instance enR : RecOk EnR 7 := ⟨fun _ h => h, fun h => by rw [h]; rfl, fun h u hu => by
 rw [h] at hu
 simp only [En.cs, aMW, List.mem_cons, List.mem_nil_iff, or_false] at hu
 rcases hu with rfl | rfl | rfl | rfl | rfl | rfl | rfl <;> rfl⟩
structure aNZ (U : View) (ib : Nat) (L : List En) : Prop where
 at_ : ∃ a c, U ⟨ib, 0, none⟩ = some (.slice a L.length c) ∧ iM EnR 7 U a L
theorem aNZ.le {U V : View} (hl : View.le U V) {ib : Nat} {L : List En} (h : aNZ U ib L) : aNZ V ib L := by
 obtain ⟨a, c, h1, h2⟩ := h.at_
 exact ⟨a, c, hl _ _ h1, h2.le hl⟩
theorem aJF (v : Int) (w : World) : CP 145 #[.int .i64 v] w (Ret (.int .i64 (Eng.bits v)) w) := (Eng.aLy v w).mono fun e w' h => ⟨h.1, h.2 ▸ Below.refl _ _⟩
def fL (v : Int) (key : List UInt8) : Bool := if (if decide (Eng.bits v > 0) then (!(key == [])) else false) then decide ((key.length : Int) ≤ 64) else false
theorem aCq (v : Int) (key : List UInt8) (w : World) : CP 102 #[.int .i64 v, .string (B key)] w (Ret (.bool (fL v key)) w) := by
 refine dK 17 Tryz.func102 ?_
 refine zQ 1 (zn (zQ 1 (dL (fun W hM => aJF v W) (zq 2 (aK 8 (decide ((Eng.bits v) > 0)) (fun h0 => ?_) (fun h0 => ?_))))))
 ·
  refine zq 1 (cH (.bool (!(key == []))) (mN _ _ _ _ rfl key [] kR kR) ?_)
  refine zq 2 (aK 12 (!(key == [])) (fun h1 => ?_) (fun h1 => ?_))
  ·
   refine zq 5 (zn (aA (aH [4] [(.bool (decide ((((key).length : Nat) : Int) ≤ 64)))] (fun W' hM => ?_))))
   exact ⟨by simp only [cG,fL,h0,h1,bs,bQ,reduceIte],hM.below⟩
  ·
   refine zq 5 (zn (aA (aH [4] [(.bool false)] (fun W' hM => ?_))))
   exact ⟨by simp only [cG,fL,h0,h1,bs,bQ,reduceIte],hM.below⟩
 ·
  refine zq 9 (zn (aA (aH [4] [(.bool false)] (fun W' hM => ?_))))
  exact ⟨by simp only [cG,fL,h0,bs,bQ,reduceIte],hM.below⟩
def TbX (ib n : Nat) (xs : List Value) (σ : aF) : Prop := ∃ r : Rw, r.ok 7 n xs ∧ σ = [(ib, .cells #[r.V n] 76 (0, 0))] ++ r.B 354 xs
def Tb (ib : Nat) (L : List En) (σ : aF) : Prop := TbX ib L.length (L.flatMap En.cs) σ
theorem Tb.snoc {ib : Nat} {L : List En} {x : En} {σ : aF} (h : TbX ib (L.length + 1) (L.flatMap En.cs ++ x.cs) σ) : Tb ib (L ++ [x]) σ := by
 unfold Tb
 rw [List.length_append, List.flatMap_append, List.flatMap_cons, List.flatMap_nil, List.append_nil]
 exact h
theorem Tb.new {ib : Nat} : Tb ib [] (aEB ib) := ⟨.nil, ⟨rfl, rfl⟩, rfl⟩
theorem aMt {W0 : Cx} {V : View} {W : World} (A B F R : aF) (h : Mem W0 V ((A ++ B) ++ F ++ R) W) : Mem W0 V ((A ++ R) ++ F) W := by
 have p : ((A ++ B) ++ F ++ R).Perm (B ++ ((A ++ R) ++ F)) := by
  refine (((List.perm_append_comm (l₁ := A) (l₂ := B)).append_right F).append_right R).trans ?_
  rw [show ((B ++ A) ++ F) ++ R = B ++ ((A ++ F) ++ R) by simp only [List.append_assoc]]
  exact (aKP A F R).append_left B
 exact (h.perm p).sub (List.sublist_append_right _ _)
def enS (v : Int) (k t g : List UInt8) : En := ⟨v, k, [], [], t, [], g⟩
theorem aJE (vr : Int) (key text : List UInt8) (ib : Nat) (L : List En) (r : Rw) {W0 : Cx} {U : View} {σF : aF} {W : World} (hr : r.ok 7 L.length (L.flatMap En.cs)) (hL : L.length ≤ 100) (hM : Mem W0 U (([(ib, .cells #[r.V L.length] 76 (0, 0))] ++ r.B 354 (L.flatMap En.cs)) ++ σF) W) :
    CP 292 #[.pointer (some ⟨ib, 0, none⟩), .int .i64 vr, .string (B key), .string (B text)] W (fN W0 U σF fun v V σ' => v = .string (B (Eng.aI (L.length + 1) (dC vr))) ∧ Tb ib (L ++ [enS vr key text (Eng.aI (L.length + 1) (dC vr))]) σ') := by
 have hz := aAG vr
 obtain ⟨a9,c9,v9⟩ := Rw.form hr
 have hM1 : Mem W0 U ([(ib,.cells #[r.V L.length] 76 (0,0))] ++ σF ++ r.B 354 (L.flatMap En.cs)) W := hM.perm (aKP _ _ _)
 have hM2 : Mem W0 U ([(bK ib [(r.V L.length)] 76)] ++ σF ++ r.B 354 (L.flatMap En.cs)) W := hM1.eqv kR
 refine eC 30 Tryz.func292 hM2 ?_
 refine zQ 1 (zn (zQ 5 (dL (fun W hM => aJt vr W) (dA 293 #[(Pt ib 0),(I6 ((dC vr : Nat) : Int))] (St (Eng.aI (L.length + 1) (dC vr))) (fun W hM => aCr ib L.length c9 (dC vr) a9 W (U := aBT W) (fun _ _ h => h) (v9 ▸ cW hM 0 ib [(r.V L.length)] 76 kR 0 _ rfl) oW oW) ?_))))
 refine zq 1 (dN 1 (fun b0 => ?_))
 refine aY 1 b0 (zn (zs ?_))
 refine aHw 0 7 [0,0,0,0,3,4,1,1] [(ib,1),(b0,7)] [.mem (fun v V => ∃ g,v = (Sl g 0 1 1) ∧ V.range g 0 [(I6 vr),(St key),(St []),(St []),(St text),(St []),(St (Eng.aI (L.length + 1) (dC vr)))]),.mem (fun _ _ => True)] (r.B 354 (L.flatMap En.cs)) ([(bK ib [(r.V L.length)] 76),(b0,.cells [(I6 vr),(St key),(St []),(St []),(St text),(St []),(St (Eng.aI (L.length + 1) (dC vr)))].toArray 354 (0,0))] ++ σF) (aKF 354 7 (L.length + 1) (L.flatMap En.cs) (fun ns _ => ns = [(I6 vr),(St key),(St []),(St []),(St text),(St []),(St (Eng.aI (L.length + 1) (dC vr)))])) (aJn ([(bK ib [(r.V L.length)] 76),(b0,.cells [(I6 vr),(St key),(St []),(St []),(St text),(St []),(St (Eng.aI (L.length + 1) (dC vr)))].toArray 354 (0,0))] ++ σF) (r.B 354 (L.flatMap En.cs)) kR) rfl (by intro v V s2 h; trivial) (by intro v V V2 s2 hV h; exact h) (by simp only [List.forall_mem_cons]; exact ⟨by intro v V V2 hV2 hP; (first | trivial | exact PhiMono.go hP hV2 | (obtain ⟨g,e,hP⟩ := hP; exact ⟨g,e,hP.le hV2⟩) | (obtain ⟨g,e,hP⟩ := hP; exact ⟨g,e,View.range_le hV2 hP⟩) | (obtain ⟨a,c,e,hP⟩ := hP; exact ⟨a,c,e,hP.le hV2⟩)),by intro v V V2 hV2 hP; (first | trivial | exact PhiMono.go hP hV2 | (obtain ⟨g,e,hP⟩ := hP; exact ⟨g,e,hP.le hV2⟩) | (obtain ⟨g,e,hP⟩ := hP; exact ⟨g,e,View.range_le hV2 hP⟩) | (obtain ⟨a,c,e,hP⟩ := hP; exact ⟨a,c,e,hP.le hV2⟩)),fun _ h => by cases h⟩) ⟨?_,?_,trivial⟩ ?_
 ·
  refine nO fun σ' => wN [23] (fun u => [(.agg #[(I6 vr),(St key),(St []),(St []),(St text),(St []),(St (Eng.aI (L.length + 1) (dC vr)))])]) fun u V hV hdq => ?_
  refine ⟨[(I6 vr),(St key),(St []),(St []),(St text),(St []),(St (Eng.aI (L.length + 1) (dC vr)))],354,fun r => (Sl r 0 1 1),?_,fun g V' hV' hR => ?_⟩
  · kernel_rfl
  exact ⟨g,rfl,hR⟩
 ·
  refine nP (fun u => u 6) 354 74 7 104 1 L.length hr (by unfold maxLen; omega) oW fun u V hV hdq => ?_
  have e6 := hdq 6 kR rfl
  obtain ⟨g6,q6,t6⟩ := e6
  exact ⟨g6,0,1,_,q6,t6,rfl,by kernel_rfl,rfl⟩
 intro u1 V1 s1 hV1 hdq1 hP1
 obtain ⟨z1,hz1⟩ : ∃ z,u1 7 = z := ⟨_,rfl⟩
 rw [hz1] at hP1
 obtain ⟨r1,_,rfl,rfl,hr1,rfl⟩ := hP1
 refine lV _ (([(bK ib [(r.V L.length)] 76),(b0,.cells [(I6 vr),(St key),(St []),(St []),(St text),(St []),(St (Eng.aI (L.length + 1) (dC vr)))].toArray 354 (0,0))] ++ σF) ++ r1.B 354 ((L.flatMap En.cs) ++ [(I6 vr),(St key),(St []),(St []),(St text),(St []),(St (Eng.aI (L.length + 1) (dC vr)))])) (fun _ h => (h.perm List.perm_append_comm).eqv kR) ?_
 refine aLH 25 hz1 ?_
 refine zq 2 ?_
 refine aL3 0 ib 0 (L.length + 1) 7 r1 ((L.flatMap En.cs) ++ [(I6 vr),(St key),(St []),(St []),(St text),(St []),(St (Eng.aI (L.length + 1) (dC vr)))]) hr1 [(r.V L.length)] 76 74 _ _ rfl kR kR kR (fun a c => by kernel_rfl) kR rfl kR ?_
 refine zn (zB [0,2,0] [(b0,1)] (zn (aA (aH [8] [(St (Eng.aI (L.length + 1) (dC vr)))] (fun W' hM => ?_)))))
 exact ⟨_,_,_,rfl,hV1,aMt [(bK ib [(r1.V (L.length + 1))] 76)] [(b0,.cells [(I6 vr),(St key),(St []),(St []),(St text),(St []),(St (Eng.aI (L.length + 1) (dC vr)))].toArray 354 (0,0))] σF (r1.B 354 ((L.flatMap En.cs) ++ [(I6 vr),(St key),(St []),(St []),(St text),(St []),(St (Eng.aI (L.length + 1) (dC vr)))])) (hM.eqv kR),rfl,Tb.snoc ⟨r1,hr1,rfl⟩⟩
def pN (ib : Nat) (L : List En) (vr : Int) (key text : List UInt8) (v : Value) (_ : View) (σ' : aF) : Prop := if fL vr key then v = .tuple #[.string (B (Eng.aI (L.length + 1) (dC vr))), .int .i64 0] ∧ Tb ib (L ++ [(enS vr key text (Eng.aI (L.length + 1) (dC vr)))]) σ' else v = .tuple #[.string (B []), .int .i64 1] ∧ Tb ib L σ'
theorem aEJ (vr : Int) (key text : List UInt8) (eb ib : Nat) (L : List En) {W0 : Cx} {U : View} {σT σF : aF} {W : World} (he : aBV U eb ib) (hT : Tb ib L σT) (hL : L.length ≤ 100) (hM : Mem W0 U (σT ++ σF) W) : CP 88 #[.pointer (some ⟨eb, 0, none⟩), .int .i64 vr, .string (B key), .string (B text)] W (fN W0 U σF (pN ib L vr key text)) := by
 obtain ⟨r,hr,rfl⟩ := hT
 have hM1 : Mem W0 U ([(ib,.cells #[r.V L.length] 76 (0,0))] ++ σF ++ r.B 354 (L.flatMap En.cs)) W := hM.perm (aKP _ _ _)
 have hM2 : Mem W0 U ([(bK ib [(r.V L.length)] 76)] ++ σF ++ r.B 354 (L.flatMap En.cs)) W := hM1.eqv kR
 refine eC 22 Tryz.func88 hM2 ?_
 refine zQ 2 (zn (zs (zQ 2 (dL (fun W hM => aCq vr key W) (zq 1 (zn (cD (!(fL vr key)) (fun h0 => ?_) (fun h0 => ?_))))))))
 ·
  refine zQ 2 (zn (aA (aH [8,9] [(St []),(I6 1)] (fun W' hM => ?_))))
  refine ⟨_,_,_,rfl,View.le_refl _,(hM.eqv (show _ = [(ib,.cells #[r.V L.length] 76 (0,0))] ++ σF ++ r.B 354 (L.flatMap En.cs) from by kernel_rfl)).perm (aKP _ _ _),?_⟩
  unfold pN
  rw [if_neg (by simpa using h0)]
  exact ⟨rfl,r,hr,rfl⟩
 ·
  refine zk (zQ 3 (zV eb (0) (.iface 73 (Pt ib 0)) he 78 (.tmp 16) _ Tryz.underlying78 rfl ?_))
  refine zq 3 (aON 292 #[(Pt ib 0),(I6 vr),(St key),(St text)] ([(bK ib [(r.V L.length)] 76)] ++ r.B 354 (L.flatMap En.cs)) σF (fun v V σ' => v = .string (B (Eng.aI (L.length + 1) (dC vr))) ∧ Tb ib (L ++ [(enS vr key text (Eng.aI (L.length + 1) (dC vr)))]) σ') (aKP [(bK ib [(r.V L.length)] 76)] σF (r.B 354 (L.flatMap En.cs))) (fun W hM => aJE vr key text ib L r hr hL hM) (fun v0 V0 s0 hV0 hP0 => ?_))
  obtain ⟨rfl,hT0⟩ := hP0
  refine zq 2 (zn (aA (aH [8,9] [(St (Eng.aI (L.length + 1) (dC vr))),(I6 0)] (fun W' hM => ?_))))
  refine ⟨_,_,_,rfl,hV0,hM,?_⟩
  unfold pN
  rw [if_pos (by simpa using h0)]
  exact ⟨rfl,hT0⟩
def gB (v : Int) (k t g : List UInt8) (e : En) : Bool := decide (e.v = v ∧ e.k = k ∧ e.nn = [] ∧ e.wt = [] ∧ e.t = t ∧ e.m = [] ∧ e.g = g)
theorem aHp {L : List En} {f : En → Bool} {i : Nat} {y : En} (h : L[i]? = some y) : (L.drop i).any f = (f y || (L.drop (i + 1)).any f) := by rw [cK h, List.any_cons]
theorem aHy (vr : Int) (key text tag : List UInt8) (ib : Nat) (L : List En) (w : World) {U : View} (hU : See U w) (hT : aNZ U ib L) : CP 289 #[.pointer (some ⟨ib, 0, none⟩), .int .i64 vr, .string (B key), .string (B text), .string (B tag)] w (Ret (.bool (L.any (gB vr key text tag))) w) := by
 obtain ⟨a,c,hib,hL⟩ := hT.at_
 have hlen := hL.len
 unfold R47 at hlen
 refine eG 30 Tryz.func289 hU ?_
 refine zQ 1 (zn (zs (zQ 3 (zV ib (0) (.slice a L.length c) hib 74 (.tmp 15) _ Tryz.underlying74 rfl ?_))))
 refine zq 2 (zn (aB (gX (α := Nat) (fun x => [1,2,3,4,10,16,17,18].zip [(I6 vr),(St key),(St text),(St tag),(.bool false),(.slice a L.length c),(L6 L.length),(L6 x)]) (fun x => U) (fun x => []) (fun x => x ≤ L.length ∧ (L.drop x).any (gB vr key text tag) = L.any (gB vr key text tag)) (fun x => L.length - x) 0 ?_ ?_)))
 · exact ⟨Nat.zero_le _,rfl⟩
 intro x hx
 obtain ⟨hx1,hx2⟩ := hx
 refine zQ 1 (zn (zs (cD (decide ((x : Int) < (L.length : Int))) (fun h0 => ?_) (fun h0 => ?_))))
 ·
  have h0d := of_decide_eq_true h0
  refine zk (zs (aB (zs (zr ?_))))
  obtain ⟨y0,hy0⟩ : ∃ y,(L)[x]? = some y := ⟨(L)[x]'oW,List.getElem?_eq_getElem _⟩
  obtain ⟨b0,f0,cs0,rfl,hU0,hR0⟩ := hL.at_ x y0 hy0
  obtain rfl := hR0
  refine cH (Pt b0 (f0 + x * 7)) (rIx 354 rfl b0 f0 L.length c x 7) ?_
  refine zU b0 (f0 + x * 7) [(I6 y0.v),(St y0.k),(St y0.nn),(St y0.wt),(St y0.t),(St y0.m),(St y0.g)] hU0 354 (.tmp 20) _ Tryz.underlying354 rfl ?_
  refine cJ (fun b1 => (aY 0 b1 (zn (zB [1,0,0,0,0,0] [(b1,7)] (cH (.bool (decide (y0.v = vr ∧ y0.k = key ∧ y0.nn = [] ∧ y0.wt = [] ∧ y0.t = text ∧ y0.m = [] ∧ y0.g = tag))) (aKz _ _ _ rfl _ _ _ _ _ _ _ _ _ _ _ _ _ _ kR kR) ?_)))))
  refine zn (cD (decide (y0.v = vr ∧ y0.k = key ∧ y0.nn = [] ∧ y0.wt = [] ∧ y0.t = text ∧ y0.m = [] ∧ y0.g = tag)) (fun h1 => ?_) (fun h1 => ?_))
  ·
   have h1d := of_decide_eq_true h1
   refine zQ 1 (zn (aA (aH [10] [(.bool true)] (fun W' hM => ?_))))
   refine ⟨?_,hM.below⟩
   have hh9 : gB vr key text tag y0 = true := h1
   rw [show L.any (gB vr key text tag) = true from by rw [← hx2,aHp hy0,hh9]; rfl]
   rfl
  ·
   have h1d := of_decide_eq_false h1
   refine zk (zr (zq 1 (eV 29 ((x : Int) + 1) (zq 1 (zn ?_)))))
   refine nx (x + 1) ?_ ?_ (d := fun _ h => Mem.sub (List.sublist_append_left _ _) (h.eqv (show _ = ([] : aF) ++ ([(bK b1 [(I6 y0.v),(St y0.k),(St y0.nn),(St y0.wt),(St y0.t),(St y0.m),(St y0.g)] 354)] : aF) from by kernel_rfl)))
   · exact ⟨by omega,by rw [← hx2,aHp hy0,show gB vr key text tag y0 = false from h1]; rfl⟩
   · show L.length - (x + 1) < L.length - x; omega
 ·
  have h0d := of_decide_eq_false h0
  refine aU (zQ 1 (zn (aA (aH [10] [(.bool false)] (fun W' hM => ?_)))))
  refine ⟨?_,hM.below⟩
  rw [show L.any (gB vr key text tag) = false from by rw [← hx2,cY oW]; rfl]
  rfl
def iO (L : List En) (vr : Int) (key text tag : List UInt8) : Int := if fL vr key = false then 1 else if (L.any (gB vr key text tag)) = false then 7 else 0
theorem aHA (vr : Int) (key text tag : List UInt8) (eb ib : Nat) (L : List En) (w : World) {U : View} (hU : See U w) (he : aBV U eb ib) (hT : aNZ U ib L) : CP 50 #[.pointer (some ⟨eb, 0, none⟩), .int .i64 vr, .string (B key), .string (B text), .string (B tag)] w (Ret (.int .i64 (iO L vr key text tag)) w) := by
 refine eG 27 Tryz.func50 hU ?_
 refine zQ 1 (zn (zs (aB (zQ 2 (dL (fun W hM => aCq vr key W) (zq 2 (zn (cD (!(fL vr key)) (fun h0 => ?_) (fun h0 => ?_)))))))))
 ·
  refine zQ 1 (zn (aA (aH [10] [(I6 1)] (fun W' hM => ?_))))
  have hp9 : fL vr key = false := by simpa using h0
  refine ⟨?_,hM.below⟩
  unfold iO
  simp only [cG,hp9,bs,bQ,reduceIte,Bool.true_eq_false,reduceCtorEq]
  try rfl
 ·
  refine zQ 3 (zV eb (0) (.iface 73 (Pt ib 0)) he 78 (.tmp 19) _ Tryz.underlying78 rfl ?_)
  refine zq 4 (dL (fun W hM => aHy vr key text tag ib L W hM.view hT) (zq 2 (zn (cD (!(L.any (gB vr key text tag))) (fun h1 => ?_) (fun h1 => ?_)))))
  ·
   refine zQ 1 (zn (aA (aH [10] [(I6 7)] (fun W' hM => ?_))))
   have hp9 : fL vr key = true := by simpa using h0
   have hq9 : (L.any (gB vr key text tag)) = false := by simpa using h1
   refine ⟨?_,hM.below⟩
   unfold iO
   simp only [cG,hp9,hq9,bs,bQ,reduceIte,Bool.true_eq_false,reduceCtorEq]
   try rfl
  ·
   refine zk (zQ 1 (zn (aA (aH [10] [(I6 0)] (fun W' hM => ?_)))))
   have hp9 : fL vr key = true := by simpa using h0
   have hq9 : (L.any (gB vr key text tag)) = true := by simpa using h1
   refine ⟨?_,hM.below⟩
   unfold iO
   simp only [cG,hp9,hq9,bs,bQ,reduceIte,Bool.true_eq_false,reduceCtorEq]
   try rfl
theorem aHf {A H S : List UInt8} {target scope : Int} (hA : A.length ≤ 4000) (hH : H.length ≤ 27) (hS : S.length ≤ 27) : (aCF A H S target scope).length ≤ 5000 := by
 unfold aCF
 have h0 := (Itm.aW 0 scope.toNat).2
 simp only [List.length_append]
 have e : ∀ (b : Bool) (X : List UInt8), (if b = true then X else []).length ≤ X.length := fun b X => by cases b <;> simp
 have h1 := e (if (gC .i64 scope 1 != 0) then (target != 0) else false) A
 have h2 := e (gC .i64 scope 2 != 0) H
 have h3 := e (gC .i64 scope 4 != 0) S
 omega
def txZ (p : Pr) (l : List Bk) (target : Int) (sec : Bk) (scope : Int) : Int := if !(aFm scope) then 1 else rdZ p l target sec
def txB (p : Pr) (l : List Bk) (target : Int) (sec : Bk) (scope : Int) : List UInt8 := if txZ p l target sec scope != 0 then [] else aCF (rdA p l target) (rdH p l target) (rdS p l target sec) target scope ++ rdD p l target
theorem qJ (p : Pr) (l : List Bk) (a : Option Addr) (c : Nat) (target : Int) (sec : Bk) (scope : Int) (w : World) {U : View} (hU : See U w) (hp : p.ok) (hl : cX U a l) (hs : sec.ok) (hdl : ∀ x ∈ l, x.d.length ≤ 100000) : CP 49 #[bnV p a l.length c, .int .i64 target, sec.V, .int .i64 scope] w (Ret (.tuple #[.string (B (txB p l target sec scope)), .int .i64 (txZ p l target sec scope)]) w) := by
 have hA := aIC (p := p) (l := l) (target := target)
 have hH := aIB (p := p) (l := l) (target := target)
 have hS := aIA (p := p) (l := l) (target := target) (sec := sec)
 have hD := aJm (p := p) (target := target) hdl
 have hB := aHf (target := target) (scope := scope) hA hH hS
 refine eG 32 Tryz.func49 hU ?_
 refine zs (zr (cJ (fun b0 => (cJ (fun b1 => (zq 2 (zn (zs (zQ 1 (dL (fun W hM => aIr scope W) (zq 1 (zn (cD (!(aFm scope)) (fun h0 => ?_) (fun h0 => ?_))))))))))))))
 ·
  refine zQ 2 (zn (aA (aH [8,9] [(St []),(I6 1)] (fun W' hM => ?_))))
  exact ⟨by simp only [cG,txB,txZ,h0,bs,bQ,reduceIte,bne_self_eq_false]; try rfl,hM.below⟩
 ·
  refine zk (zB [1,0,2] [(b0,20),(b1,5)] (dA 100 #[(bnV p a l.length c),(I6 target),(sec.V)] (.tuple #[(.agg #[(St (rdA p l target)),(St (rdH p l target)),(St (rdS p l target sec)),(St (rdD p l target))]),(I6 (rdZ p l target sec))]) (fun W hM => aEU p l _ _ target sec W hM.view hp hl hs) ?_))
  refine zq 3 (cJ (fun b2 => (aY 2 b2 (zq 1 (zn (zs (zQ 2 (zn (cD ((rdZ p l target sec) != 0) (fun h1 => ?_) (fun h1 => ?_))))))))))
  ·
   refine zQ 3 (zn (aA (aH [8,9] [(St []),(I6 (rdZ p l target sec))] (fun W' hM => ?_))))
   exact ⟨by simp only [cG,txB,txZ,h0,h1,bs,bQ,reduceIte,bne_self_eq_false]; try rfl,hM.below⟩
  ·
   have h1d := bne_eq_false_iff_eq.1 h1
   refine zk (zs ?_)
   have hmay : aFm scope = true := by have := h0; revert this; cases aFm scope <;> simp
   refine gU 1 [5,0,0,1,0,5] [(b2,4),(b2,1)] [.val (St (aCF (rdA p l target) (rdH p l target) (rdS p l target sec) target scope))] ⟨?_,trivial⟩ ?_
   · exact vC 101 #[(.agg #[(St (rdA p l target)),(St (rdH p l target)),(St (rdS p l target sec)),(St (rdD p l target))]),(I6 target),(I6 scope)] (fun W hM => aIs _ _ _ _ target scope W (aIY (by simpa using hmay)).1 (aIY (by simpa using hmay)).2 oW oW oW)
   refine cH (St ((aCF (rdA p l target) (rdH p l target) (rdS p l target sec) target scope) ++ (rdD p l target))) (cE _ _ _ _ rfl (aCF (rdA p l target) (rdH p l target) (rdS p l target sec) target scope) (rdD p l target) kR kR oA) ?_
   refine zq 2 (zn (aA (aH [8,9] [(St ((aCF (rdA p l target) (rdH p l target) (rdS p l target sec) target scope) ++ (rdD p l target))),(I6 0)] (fun W' hM => ?_))))
   have hz0 : rdZ p l target sec = 0 := by simpa using h1
   exact ⟨by simp only [cG,txB,txZ,h0,h1,hz0,bs,bQ,reduceIte,bne_self_eq_false]; try rfl,hM.below⟩
def sgC (eb : Nat) (p : Pr) (a : Option Addr) (n c : Nat) (sec : Bk) (vr scope : Int) (key : List UInt8) : List Value := [.pointer (some ⟨eb, 0, none⟩)] ++ eB p a n c ++ sec.cs ++ [.int .i64 vr, .int .i64 scope, .string (B key)]
def mX (p : Pr) (l : List Bk) (sec : Bk) (vr scope : Int) (key : List UInt8) (t : Int) : Bool := txZ p l t sec scope == 0 && fL vr key
def tgE (p : Pr) (l : List Bk) (sec : Bk) (vr scope : Int) (key : List UInt8) (L : List En) (t : Int) : En := enS vr key (txB p l t sec scope) (Eng.aI (L.length + 1) (dC vr))
def aD8 (sb : Nat) (cs : List Value) (ib : Nat) (L : List En) (p : Pr) (l : List Bk) (sec : Bk) (vr scope : Int) (key : List UInt8) (t : Int) (v : Value) (_ : View) (σ' : aF) : Prop :=
 if mX p l sec vr scope key t then v = .tuple #[.string (B (Eng.aI (L.length + 1) (dC vr))), .int .i64 0] ∧ ∃ σT, Tb ib (L ++ [tgE p l sec vr scope key L t]) σT ∧ σ' = [(sb, .cells cs.toArray 85 (0, 0))] ++ σT
 else ∃ z : Int, v = .tuple #[.string (B []), .int .i64 z] ∧ z ≠ 0 ∧ ∃ σT, Tb ib L σT ∧ σ' = [(sb, .cells cs.toArray 85 (0, 0))] ++ σT
theorem aGG (p : Pr) (l : List Bk) (a : Option Addr) (c : Nat) (sec : Bk) (vr scope : Int) (key : List UInt8) (target : Int) (sb eb ib : Nat) (L : List En) {W0 : Cx} {U : View} {σT σF : aF} {W : World} (hp : p.ok) (hl : cX U a l) (hs : sec.ok) (hdl : ∀ x ∈ l, x.d.length ≤ 100000) (he : aBV U eb ib) (hT : Tb ib L σT) (hL : L.length ≤ 100)
    (hM : Mem W0 U (([(sb, .cells (sgC eb p a l.length c sec vr scope key).toArray 85 (0, 0))] ++ σT) ++ σF) W) : CP 41 #[.pointer (some ⟨sb, 0, none⟩), .int .i64 target] W (fN W0 U σF (aD8 sb (sgC eb p a l.length c sec vr scope key) ib L p l sec vr scope key target)) := by
 cases hsg : fL vr key with
 | true =>
  have hM2 : Mem W0 U ([(bK sb [(Pt eb 0),(N6 p.f),(I6 p.c),(I6 p.dst.s),(St p.dst.l),(N6 p.dst.n),(N6 p.dst.v),(I6 p.src.s),(St p.src.l),(N6 p.src.n),(N6 p.src.v),(I6 p.rpt.s),(St p.rpt.l),(N6 p.rpt.n),(N6 p.rpt.v),(N6 p.time),(N6 p.seq),(N6 p.life),(N6 p.off),(N6 p.tot),(.slice a l.length c),(I6 sec.t),(I6 sec.n),(N6 sec.f),(I6 sec.c),(St sec.d),(I6 vr),(I6 scope),(St key)] 85)] ++ σT ++ σF) W := hM.eqv kR
  refine eC 44 Tryz.func41 hM2 ?_
  refine zQ 2 (zn (zs ?_))
  refine gU 0 [0,0,0,3,0,0,0,0,3,0,0,0,3,1,0,0,0,0] [(sb,20),(sb,5),(sb,1)] [.val (.tuple #[(St (txB p l target sec scope)),(I6 (txZ p l target sec scope))])] ⟨?_,trivial⟩ ?_
  · exact vC 49 #[(bnV p a l.length c),(I6 target),(sec.V),(I6 scope)] (fun W hM => qJ p l _ _ target sec scope W hM.view hp hl hs hdl)
  refine zq 1 (zn (zs (zQ 2 (zn (cD ((txZ p l target sec scope) != 0) (fun h0 => ?_) (fun h0 => ?_))))))
  ·
   have h0d := bne_iff_ne.1 h0
   refine zQ 3 (zn (aA (aH [4,5] [(St []),(I6 (txZ p l target sec scope))] (fun W' hM => ?_))))
   refine ⟨_,_,[(bK sb [(Pt eb 0),(N6 p.f),(I6 p.c),(I6 p.dst.s),(St p.dst.l),(N6 p.dst.n),(N6 p.dst.v),(I6 p.src.s),(St p.src.l),(N6 p.src.n),(N6 p.src.v),(I6 p.rpt.s),(St p.rpt.l),(N6 p.rpt.n),(N6 p.rpt.v),(N6 p.time),(N6 p.seq),(N6 p.life),(N6 p.off),(N6 p.tot),(.slice a l.length c),(I6 sec.t),(I6 sec.n),(N6 sec.f),(I6 sec.c),(St sec.d),(I6 vr),(I6 scope),(St key)] 85)] ++ σT,rfl,(View.le_refl _),hM.eqv kR,?_⟩
   unfold aD8 mX
   rw [if_neg (by have := h0; simp_all)]
   exact ⟨_,rfl,by simpa using h0,σT,hT,rfl⟩
  ·
   have h0d := bne_eq_false_iff_eq.1 h0
   refine zk (zs ?_)
   refine aHw 0 13 [0,0,0,3,0,0,0,3,0,0,0,3,0,1,1,1] [(sb,1),(sb,1),(sb,1)] [.mem (fun v _ => v = (.tuple #[(St (Eng.aI (L.length + 1) (dC vr))),(I6 0)])),.val (St (Eng.aI (L.length + 1) (dC vr))),.val (I6 0)] σT ([(bK sb [(Pt eb 0),(N6 p.f),(I6 p.c),(I6 p.dst.s),(St p.dst.l),(N6 p.dst.n),(N6 p.dst.v),(I6 p.src.s),(St p.src.l),(N6 p.src.n),(N6 p.src.v),(I6 p.rpt.s),(St p.rpt.l),(N6 p.rpt.n),(N6 p.rpt.v),(N6 p.time),(N6 p.seq),(N6 p.life),(N6 p.off),(N6 p.tot),(.slice a l.length c),(I6 sec.t),(I6 sec.n),(N6 sec.f),(I6 sec.c),(St sec.d),(I6 vr),(I6 scope),(St key)] 85)] ++ (σF)) (pN ib L vr key (txB p l target sec scope)) (sX [(bK sb [(Pt eb 0),(N6 p.f),(I6 p.c),(I6 p.dst.s),(St p.dst.l),(N6 p.dst.n),(N6 p.dst.v),(I6 p.src.s),(St p.src.l),(N6 p.src.n),(N6 p.src.v),(I6 p.rpt.s),(St p.rpt.l),(N6 p.rpt.n),(N6 p.rpt.v),(N6 p.time),(N6 p.seq),(N6 p.life),(N6 p.off),(N6 p.tot),(.slice a l.length c),(I6 sec.t),(I6 sec.n),(N6 sec.f),(I6 sec.c),(St sec.d),(I6 vr),(I6 scope),(St key)] 85)] σT (σF) kR) rfl (by intro v V s2 h; unfold pN at h; first | rw [if_pos hsg] at h; exact h.1 | rw [if_neg (by rw [hsg]; exact Bool.false_ne_true)] at h; exact h.1) (by intro v V V2 s2 hV h; exact h) (by simp only [List.forall_mem_cons]; exact ⟨by intro v V V2 hV2 hP; (first | trivial | exact PhiMono.go hP hV2 | (obtain ⟨g,e,hP⟩ := hP; exact ⟨g,e,hP.le hV2⟩)),trivial,trivial,fun _ h => by cases h⟩) ⟨?_,?_,?_,trivial⟩ ?_
   ·
    refine nC 88 (fun u => #[(Pt eb 0),(I6 vr),(St key),(St (txB p l target sec scope))]) fun u V hV hdq W hM => ?_
    exact aEJ vr key (txB p l target sec scope) eb ib L (aBV.le hV he) hT hL hM
   ·
    refine nO fun σ' => wK [41] (fun u => [u 13]) fun u V hV hdq => ?_
    have e13 := hdq 13 kR rfl
    have q13 : _ = _ := e13
    rw [q13]
    show _ = _
    kernel_rfl
   ·
    refine nO fun σ' => wK [41] (fun u => [u 13]) fun u V hV hdq => ?_
    have e13 := hdq 13 kR rfl
    have q13 : _ = _ := e13
    rw [q13]
    show _ = _
    kernel_rfl
   intro u0 V0 s0 hV0 hdq0 hP0
   obtain ⟨z0,hz0⟩ : ∃ z,u0 13 = z := ⟨_,rfl⟩
   rw [hz0] at hP0
   unfold pN at hP0
   rw [if_pos hsg] at hP0
   obtain ⟨_,hT0⟩ := hP0
   refine lV _ ([(bK sb [(Pt eb 0),(N6 p.f),(I6 p.c),(I6 p.dst.s),(St p.dst.l),(N6 p.dst.n),(N6 p.dst.v),(I6 p.src.s),(St p.src.l),(N6 p.src.n),(N6 p.src.v),(I6 p.rpt.s),(St p.rpt.l),(N6 p.rpt.n),(N6 p.rpt.v),(N6 p.time),(N6 p.seq),(N6 p.life),(N6 p.off),(N6 p.tot),(.slice a l.length c),(I6 sec.t),(I6 sec.n),(N6 sec.f),(I6 sec.c),(St sec.d),(I6 vr),(I6 scope),(St key)] 85)] ++ s0 ++ (σF)) (fun _ h => h.perm (sX [(bK sb [(Pt eb 0),(N6 p.f),(I6 p.c),(I6 p.dst.s),(St p.dst.l),(N6 p.dst.n),(N6 p.dst.v),(I6 p.src.s),(St p.src.l),(N6 p.src.n),(N6 p.src.v),(I6 p.rpt.s),(St p.rpt.l),(N6 p.rpt.n),(N6 p.rpt.v),(N6 p.time),(N6 p.seq),(N6 p.life),(N6 p.off),(N6 p.tot),(.slice a l.length c),(I6 sec.t),(I6 sec.n),(N6 sec.f),(I6 sec.c),(St sec.d),(I6 vr),(I6 scope),(St key)] 85)] s0 (σF) rfl).symm) ?_
   refine zq 2 (zn (aA (aH [4,5] [(St (Eng.aI (L.length + 1) (dC vr))),(I6 0)] (fun W' hM => ?_))))
   refine ⟨_,_,[(bK sb [(Pt eb 0),(N6 p.f),(I6 p.c),(I6 p.dst.s),(St p.dst.l),(N6 p.dst.n),(N6 p.dst.v),(I6 p.src.s),(St p.src.l),(N6 p.src.n),(N6 p.src.v),(I6 p.rpt.s),(St p.rpt.l),(N6 p.rpt.n),(N6 p.rpt.v),(N6 p.time),(N6 p.seq),(N6 p.life),(N6 p.off),(N6 p.tot),(.slice a l.length c),(I6 sec.t),(I6 sec.n),(N6 sec.f),(I6 sec.c),(St sec.d),(I6 vr),(I6 scope),(St key)] 85)] ++ s0,rfl,hV0,hM.eqv kR,?_⟩
   unfold aD8 mX
   rw [if_pos (by rw [hsg]; have := h0; simp_all)]
   exact ⟨rfl,s0,hT0,rfl⟩
 | false =>
  have hM2 : Mem W0 U ([(bK sb [(Pt eb 0),(N6 p.f),(I6 p.c),(I6 p.dst.s),(St p.dst.l),(N6 p.dst.n),(N6 p.dst.v),(I6 p.src.s),(St p.src.l),(N6 p.src.n),(N6 p.src.v),(I6 p.rpt.s),(St p.rpt.l),(N6 p.rpt.n),(N6 p.rpt.v),(N6 p.time),(N6 p.seq),(N6 p.life),(N6 p.off),(N6 p.tot),(.slice a l.length c),(I6 sec.t),(I6 sec.n),(N6 sec.f),(I6 sec.c),(St sec.d),(I6 vr),(I6 scope),(St key)] 85)] ++ σT ++ σF) W := hM.eqv kR
  refine eC 44 Tryz.func41 hM2 ?_
  refine zQ 2 (zn (zs ?_))
  refine gU 0 [0,0,0,3,0,0,0,0,3,0,0,0,3,1,0,0,0,0] [(sb,20),(sb,5),(sb,1)] [.val (.tuple #[(St (txB p l target sec scope)),(I6 (txZ p l target sec scope))])] ⟨?_,trivial⟩ ?_
  · exact vC 49 #[(bnV p a l.length c),(I6 target),(sec.V),(I6 scope)] (fun W hM => qJ p l _ _ target sec scope W hM.view hp hl hs hdl)
  refine zq 1 (zn (zs (zQ 2 (zn (cD ((txZ p l target sec scope) != 0) (fun h0 => ?_) (fun h0 => ?_))))))
  ·
   have h0d := bne_iff_ne.1 h0
   refine zQ 3 (zn (aA (aH [4,5] [(St []),(I6 (txZ p l target sec scope))] (fun W' hM => ?_))))
   refine ⟨_,_,[(bK sb [(Pt eb 0),(N6 p.f),(I6 p.c),(I6 p.dst.s),(St p.dst.l),(N6 p.dst.n),(N6 p.dst.v),(I6 p.src.s),(St p.src.l),(N6 p.src.n),(N6 p.src.v),(I6 p.rpt.s),(St p.rpt.l),(N6 p.rpt.n),(N6 p.rpt.v),(N6 p.time),(N6 p.seq),(N6 p.life),(N6 p.off),(N6 p.tot),(.slice a l.length c),(I6 sec.t),(I6 sec.n),(N6 sec.f),(I6 sec.c),(St sec.d),(I6 vr),(I6 scope),(St key)] 85)] ++ σT,rfl,(View.le_refl _),hM.eqv kR,?_⟩
   unfold aD8 mX
   rw [if_neg (by have := h0; simp_all)]
   exact ⟨_,rfl,by simpa using h0,σT,hT,rfl⟩
  ·
   refine zk (zs ?_)
   refine aHw 0 13 [0,0,0,3,0,0,0,3,0,0,0,3,0,1,1,1] [(sb,1),(sb,1),(sb,1)] [.mem (fun v _ => v = (.tuple #[(St []),(I6 1)])),.val (St []),.val (I6 1)] σT ([(bK sb [(Pt eb 0),(N6 p.f),(I6 p.c),(I6 p.dst.s),(St p.dst.l),(N6 p.dst.n),(N6 p.dst.v),(I6 p.src.s),(St p.src.l),(N6 p.src.n),(N6 p.src.v),(I6 p.rpt.s),(St p.rpt.l),(N6 p.rpt.n),(N6 p.rpt.v),(N6 p.time),(N6 p.seq),(N6 p.life),(N6 p.off),(N6 p.tot),(.slice a l.length c),(I6 sec.t),(I6 sec.n),(N6 sec.f),(I6 sec.c),(St sec.d),(I6 vr),(I6 scope),(St key)] 85)] ++ (σF)) (pN ib L vr key (txB p l target sec scope)) (sX [(bK sb [(Pt eb 0),(N6 p.f),(I6 p.c),(I6 p.dst.s),(St p.dst.l),(N6 p.dst.n),(N6 p.dst.v),(I6 p.src.s),(St p.src.l),(N6 p.src.n),(N6 p.src.v),(I6 p.rpt.s),(St p.rpt.l),(N6 p.rpt.n),(N6 p.rpt.v),(N6 p.time),(N6 p.seq),(N6 p.life),(N6 p.off),(N6 p.tot),(.slice a l.length c),(I6 sec.t),(I6 sec.n),(N6 sec.f),(I6 sec.c),(St sec.d),(I6 vr),(I6 scope),(St key)] 85)] σT (σF) kR) rfl (by intro v V s2 h; unfold pN at h; first | rw [if_pos hsg] at h; exact h.1 | rw [if_neg (by rw [hsg]; exact Bool.false_ne_true)] at h; exact h.1) (by intro v V V2 s2 hV h; exact h) (by simp only [List.forall_mem_cons]; exact ⟨by intro v V V2 hV2 hP; (first | trivial | exact PhiMono.go hP hV2 | (obtain ⟨g,e,hP⟩ := hP; exact ⟨g,e,hP.le hV2⟩)),trivial,trivial,fun _ h => by cases h⟩) ⟨?_,?_,?_,trivial⟩ ?_
   ·
    refine nC 88 (fun u => #[(Pt eb 0),(I6 vr),(St key),(St (txB p l target sec scope))]) fun u V hV hdq W hM => ?_
    exact aEJ vr key (txB p l target sec scope) eb ib L (aBV.le hV he) hT hL hM
   ·
    refine nO fun σ' => wK [41] (fun u => [u 13]) fun u V hV hdq => ?_
    have e13 := hdq 13 kR rfl
    have q13 : _ = _ := e13
    rw [q13]
    show _ = _
    kernel_rfl
   ·
    refine nO fun σ' => wK [41] (fun u => [u 13]) fun u V hV hdq => ?_
    have e13 := hdq 13 kR rfl
    have q13 : _ = _ := e13
    rw [q13]
    show _ = _
    kernel_rfl
   intro u0 V0 s0 hV0 hdq0 hP0
   obtain ⟨z0,hz0⟩ : ∃ z,u0 13 = z := ⟨_,rfl⟩
   rw [hz0] at hP0
   unfold pN at hP0
   rw [if_neg (by rw [hsg]; exact Bool.false_ne_true)] at hP0
   obtain ⟨_,hT0⟩ := hP0
   refine lV _ ([(bK sb [(Pt eb 0),(N6 p.f),(I6 p.c),(I6 p.dst.s),(St p.dst.l),(N6 p.dst.n),(N6 p.dst.v),(I6 p.src.s),(St p.src.l),(N6 p.src.n),(N6 p.src.v),(I6 p.rpt.s),(St p.rpt.l),(N6 p.rpt.n),(N6 p.rpt.v),(N6 p.time),(N6 p.seq),(N6 p.life),(N6 p.off),(N6 p.tot),(.slice a l.length c),(I6 sec.t),(I6 sec.n),(N6 sec.f),(I6 sec.c),(St sec.d),(I6 vr),(I6 scope),(St key)] 85)] ++ s0 ++ (σF)) (fun _ h => h.perm (sX [(bK sb [(Pt eb 0),(N6 p.f),(I6 p.c),(I6 p.dst.s),(St p.dst.l),(N6 p.dst.n),(N6 p.dst.v),(I6 p.src.s),(St p.src.l),(N6 p.src.n),(N6 p.src.v),(I6 p.rpt.s),(St p.rpt.l),(N6 p.rpt.n),(N6 p.rpt.v),(N6 p.time),(N6 p.seq),(N6 p.life),(N6 p.off),(N6 p.tot),(.slice a l.length c),(I6 sec.t),(I6 sec.n),(N6 sec.f),(I6 sec.c),(St sec.d),(I6 vr),(I6 scope),(St key)] 85)] s0 (σF) rfl).symm) ?_
   refine zq 2 (zn (aA (aH [4,5] [(St []),(I6 1)] (fun W' hM => ?_))))
   refine ⟨_,_,[(bK sb [(Pt eb 0),(N6 p.f),(I6 p.c),(I6 p.dst.s),(St p.dst.l),(N6 p.dst.n),(N6 p.dst.v),(I6 p.src.s),(St p.src.l),(N6 p.src.n),(N6 p.src.v),(I6 p.rpt.s),(St p.rpt.l),(N6 p.rpt.n),(N6 p.rpt.v),(N6 p.time),(N6 p.seq),(N6 p.life),(N6 p.off),(N6 p.tot),(.slice a l.length c),(I6 sec.t),(I6 sec.n),(N6 sec.f),(I6 sec.c),(St sec.d),(I6 vr),(I6 scope),(St key)] 85)] ++ s0,rfl,hV0,hM.eqv kR,?_⟩
   unfold aD8 mX
   rw [if_neg (by rw [hsg]; simp)]
   exact ⟨1,rfl,by decide,s0,hT0,rfl⟩
end Go.Proofs.YtcdjakemdlinhaaGreatDoor.Sx
