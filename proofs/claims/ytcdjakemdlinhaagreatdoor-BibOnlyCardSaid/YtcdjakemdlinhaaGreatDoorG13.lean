/-
  Several texts in one: Rh3 Rh4 Rh5 Rh6 Rh7 Rh8 Rt1 Lbo1 Bcb4 Rh9 Lbp Bop.
  Conditions: named at each.
-/
import Derived.Test.YtcdjakemdlinhaaGreatDoorG12
set_option maxHeartbeats 16000000
set_option linter.unusedSimpArgs false
set_option linter.unusedVariables false
set_option linter.unusedSectionVars false
namespace Go.Proofs.YtcdjakemdlinhaaGreatDoor.Sx
open Go.ChangeShapes Go.WideShapes Go.ChangeAt Go.RowKit Go.Deep
theorem aCW (e : Ei) (w : World) (_ : e.l.length ≤ R47) : CP 116 #[e.V] w (Ret (.bool (aX e)) w) := Eid.aGT _ _ _ _ w
def hasB (f k : Nat) : Bool := decide (f / k % 2 = 1)
theorem sW (f k : Nat) (K : Int) (hK : K = (k : Int)) (hf : f < W64) : (((IntKind.u64.wrap ((f : Int).tdiv K)).tmod 2) == 1) = hasB f k := by
 subst hK
 have h1 : ((f : Int).tdiv (k : Int)) = ((f / k : Nat) : Int) := by
  rw [Int.tdiv_eq_ediv_of_nonneg oW]
  simp
 have h2 : f / k ≤ f := Nat.div_le_self _ _
 unfold W64 at hf
 rw [h1, hasB]
 generalize f / k = q at h2 ⊢
 rw [u64_in oW oW, Int.tmod_eq_emod_of_nonneg oW]
 by_cases hq : q % 2 = 1
 ·
  rw [decide_eq_true hq, beq_iff_eq]
  omega
 ·
  rw [decide_eq_false hq, beq_eq_false_iff_ne]
  omega
theorem aAP (f k : Nat) (hf : f < W64) (hk : k < W64) : gC .u64 (f : Int) (k : Int) = ((f &&& k : Nat) : Int) := by
 unfold W64 at hf hk
 have h1 : (BitVec.ofInt 64 (f : Int) &&& BitVec.ofInt 64 (k : Int)).toNat = f &&& k := by
  rw [BitVec.toNat_and, BitVec.ofInt_natCast, BitVec.ofInt_natCast, BitVec.toNat_ofNat, BitVec.toNat_ofNat, Nat.mod_eq_of_lt oW, Nat.mod_eq_of_lt oW]
 have h2 : f &&& k ≤ f := Nat.and_le_left
 show IntKind.u64.wrap ((BitVec.ofInt 64 (f : Int) &&& BitVec.ofInt 64 (k : Int)).toNat : Int) = _
 rw [h1, u64_in oW oW]
theorem tK (f i : Nat) (K : Int) (hf : f < W64) (hi : i < 64) (hK : K = ((2 ^ i : Nat) : Int)) : (gC .u64 (f : Int) K != 0) = hasB f (2 ^ i) := by
 subst hK
 have h3 : 2 ^ i < W64 := by unfold W64; exact Nat.pow_lt_pow_right (by decide) hi
 rw [aAP f _ hf h3, hasB, ← Nat.testBit_eq_decide_div_mod_eq]
 cases hb : f.testBit i with
 | true =>
  have h4 : (f &&& 2 ^ i).testBit i = true := by rw [Nat.testBit_and, hb, Nat.testBit_two_pow_self]; rfl
  have h5 : f &&& 2 ^ i ≠ 0 := fun e => by rw [e, Nat.zero_testBit] at h4; cases h4
  simp only [bne_iff_ne, ne_eq]
  omega
 | false =>
  have h5 : f &&& 2 ^ i = 0 := by
   apply Nat.eq_of_testBit_eq
   intro j
   rw [Nat.testBit_and, Nat.zero_testBit, Nat.testBit_two_pow]
   by_cases hj : i = j
   ·
    subst hj
    rw [hb]
    rfl
   · rw [decide_eq_false hj, Bool.and_false]
  rw [h5]
  rfl
theorem aOj (f : Nat) (hf : f < W64) : (gC .u64 (f : Int) 1 != 0) = hasB f 1 := tK f 0 1 hf (by decide) rfl
theorem aOD (f : Nat) (hf : f < W64) : (gC .u64 (f : Int) 2 != 0) = hasB f 2 := tK f 1 2 hf (by decide) rfl
theorem aOi (f : Nat) (hf : f < W64) : (gC .u64 (f : Int) 4 != 0) = hasB f 4 := tK f 2 4 hf (by decide) rfl
theorem aN9 (f : Nat) (hf : f < W64) : (gC .u64 (f : Int) 278528 != 0) = (hasB f 16384 || hasB f 262144) := by
 rw [show hasB f 16384 = (gC .u64 (f : Int) 16384 != 0) from (tK f 14 16384 hf (by decide) rfl).symm, show hasB f 262144 = (gC .u64 (f : Int) 262144 != 0) from (tK f 18 262144 hf (by decide) rfl).symm,
  show gC .u64 (f : Int) 278528 = ((f &&& 278528 : Nat) : Int) from aAP f 278528 hf (by decide), show gC .u64 (f : Int) 16384 = ((f &&& 16384 : Nat) : Int) from aAP f 16384 hf (by decide), show gC .u64 (f : Int) 262144 = ((f &&& 262144 : Nat) : Int) from aAP f 262144 hf (by decide),
  show (278528 : Nat) = 16384 ||| 262144 by decide, Nat.and_or_distrib_left]
 generalize f &&& 16384 = a
 generalize f &&& 262144 = b
 rw [Bool.eq_iff_iff]
 simp only [bne_iff_ne, ne_eq, Bool.or_eq_true]
 have h : a ||| b = 0 ↔ a = 0 ∧ b = 0 := Nat.or_eq_zero_iff
 omega
theorem aII (f : Nat) (hf : f < W64) (w : World) : CP 75 #[.int .u64 (f : Int), .int .i64 1] w (Ret (.bool (hasB f 1)) w) := by
 refine dK 11 Tryz.func75 ?_
 refine zQ 1 (zn (zQ 4 (eE 8 (U6 (IntKind.u64.wrap (((f : Int)).tdiv 1))) (U6 (IntKind.u64.wrap ((f : Int).tdiv 1))) (congrArg (Value.int .u64) rfl) ?_)))
 refine zq 3 (zn (aA (aH [4] [(.bool ((((IntKind.u64.wrap ((f : Int).tdiv 1))).tmod 2) == 1))] (fun W' hM => ?_))))
 refine ⟨congrArg (fun z => Ending.returned (Value.bool z)) (sW f 1 1 rfl hf),hM.below⟩
theorem aAq (f : Nat) (hf : f < W64) (w : World) : CP 75 #[.int .u64 (f : Int), .int .i64 2] w (Ret (.bool (hasB f 2)) w) := by
 refine dK 11 Tryz.func75 ?_
 refine zQ 1 (zn (zQ 4 (eE 8 (U6 (IntKind.u64.wrap (((f : Int)).tdiv 2))) (U6 (IntKind.u64.wrap ((f : Int).tdiv 2))) (congrArg (Value.int .u64) rfl) ?_)))
 refine zq 3 (zn (aA (aH [4] [(.bool ((((IntKind.u64.wrap ((f : Int).tdiv 2))).tmod 2) == 1))] (fun W' hM => ?_))))
 refine ⟨congrArg (fun z => Ending.returned (Value.bool z)) (sW f 2 2 rfl hf),hM.below⟩
theorem aF0 (f : Nat) (hf : f < W64) (w : World) : CP 75 #[.int .u64 (f : Int), .int .i64 4] w (Ret (.bool (hasB f 4)) w) := by
 refine dK 11 Tryz.func75 ?_
 refine zQ 1 (zn (zQ 4 (eE 8 (U6 (IntKind.u64.wrap (((f : Int)).tdiv 4))) (U6 (IntKind.u64.wrap ((f : Int).tdiv 4))) (congrArg (Value.int .u64) rfl) ?_)))
 refine zq 3 (zn (aA (aH [4] [(.bool ((((IntKind.u64.wrap ((f : Int).tdiv 4))).tmod 2) == 1))] (fun W' hM => ?_))))
 refine ⟨congrArg (fun z => Ending.returned (Value.bool z)) (sW f 4 4 rfl hf),hM.below⟩
theorem aGV (f : Nat) (hf : f < W64) (w : World) : CP 75 #[.int .u64 (f : Int), .int .i64 16384] w (Ret (.bool (hasB f 16384)) w) := by
 refine dK 11 Tryz.func75 ?_
 refine zQ 1 (zn (zQ 4 (eE 8 (U6 (IntKind.u64.wrap (((f : Int)).tdiv 16384))) (U6 (IntKind.u64.wrap ((f : Int).tdiv 16384))) (congrArg (Value.int .u64) rfl) ?_)))
 refine zq 3 (zn (aA (aH [4] [(.bool ((((IntKind.u64.wrap ((f : Int).tdiv 16384))).tmod 2) == 1))] (fun W' hM => ?_))))
 refine ⟨congrArg (fun z => Ending.returned (Value.bool z)) (sW f 16384 16384 rfl hf),hM.below⟩
theorem aE8 (f : Nat) (hf : f < W64) (w : World) : CP 75 #[.int .u64 (f : Int), .int .i64 262144] w (Ret (.bool (hasB f 262144)) w) := by
 refine dK 11 Tryz.func75 ?_
 refine zQ 1 (zn (zQ 4 (eE 8 (U6 (IntKind.u64.wrap (((f : Int)).tdiv 262144))) (U6 (IntKind.u64.wrap ((f : Int).tdiv 262144))) (congrArg (Value.int .u64) rfl) ?_)))
 refine zq 3 (zn (aA (aH [4] [(.bool ((((IntKind.u64.wrap ((f : Int).tdiv 262144))).tmod 2) == 1))] (fun W' hM => ?_))))
 refine ⟨congrArg (fun z => Ending.returned (Value.bool z)) (sW f 262144 262144 rfl hf),hM.below⟩
def cV (p : Pr) : Int :=
 if !aX p.dst || !aX p.src || !aX p.rpt || decide (p.c < 0) || decide (p.c > 2) || decide ((p.f : Int) ≥ 2097152) then 1
 else if big p.time || big p.seq || big p.life || big p.off || big p.tot then 1
 else if (hasB p.f 1 && (hasB p.f 4 || decide ((p.off : Int) ≥ (p.tot : Int)))) || (!hasB p.f 1 && (decide ((p.off : Int) > 0) || decide ((p.tot : Int) > 0))) then 8
 else if ((hasB p.f 16384 || hasB p.f 262144) && (((p.src.s == 1) && (p.src.l == [110, 111, 110, 101])) || hasB p.f 2)) || (((p.src.s == 1) && (p.src.l == [110, 111, 110, 101])) && !hasB p.f 4) then 8 else 0
theorem aA2 (p : Pr) (w : World) (h : p.ok) : CP 71 #[p.V] w (Ret (.int .i64 (cV p)) w) := by
 refine dK 124 Tryz.func71 ?_
 refine zs (zr (cJ (fun b0 => (zq 1 (zn (zs (zB [0,1] [(b0,4)] (dL (fun W hM => aCW p.dst W h.dst.l) (zq 2 (aK 12 (!(aX p.dst)) (fun h0 => ?_) (fun h0 => ?_)))))))))))
 ·
  refine zq 26 (zn (dF (zQ 1 (zn (aA (aH [2] [(I6 1)] (fun W' hM => ?_)))))))
  exact ⟨by simp only [cG,cV,big,h0,bs,bQ,reduceIte],hM.below⟩
 ·
  refine cU [0,1] [(b0,4)] (dL (fun W hM => aCW p.src W h.src.l) (zq 3 (aK 18 (!(aX p.src)) (fun h1 => ?_) (fun h1 => ?_))))
  ·
   refine zq 20 (zn (dF (zQ 1 (zn (aA (aH [2] [(I6 1)] (fun W' hM => ?_)))))))
   exact ⟨by simp only [cG,cV,big,h0,h1,bs,bQ,reduceIte],hM.below⟩
  ·
   refine cU [0,1] [(b0,4)] (dL (fun W hM => aCW p.rpt W h.rpt.l) (zq 3 (aK 24 (!(aX p.rpt)) (fun h2 => ?_) (fun h2 => ?_))))
   ·
    refine zq 14 (zn (dF (zQ 1 (zn (aA (aH [2] [(I6 1)] (fun W' hM => ?_)))))))
    exact ⟨by simp only [cG,cV,big,h0,h1,h2,bs,bQ,reduceIte],hM.below⟩
   ·
    refine cU [0,1,0,0,0] [(b0,1)] (aK 29 (decide (p.c < 0)) (fun h3 => ?_) (fun h3 => ?_))
    ·
     refine zq 9 (zn (dF (zQ 1 (zn (aA (aH [2] [(I6 1)] (fun W' hM => ?_)))))))
     exact ⟨by simp only [cG,cV,big,h0,h1,h2,h3,bs,bQ,reduceIte],hM.below⟩
    ·
     have h3d := of_decide_eq_false h3
     refine cU [0,1,0,0,0] [(b0,1)] (aK 34 (decide (p.c > 2)) (fun h4 => ?_) (fun h4 => ?_))
     ·
      refine zq 4 (zn (dF (zQ 1 (zn (aA (aH [2] [(I6 1)] (fun W' hM => ?_)))))))
      exact ⟨by simp only [cG,cV,big,h0,h1,h2,h3,h4,bs,bQ,reduceIte],hM.below⟩
     ·
      have h4d := of_decide_eq_false h4
      refine cU [0,1,0,0] [(b0,1)] (zn (cD (decide ((p.f : Int) ≥ 2097152)) (fun h5 => ?_) (fun h5 => ?_)))
      ·
       refine zQ 1 (zn (aA (aH [2] [(I6 1)] (fun W' hM => ?_))))
       exact ⟨by simp only [cG,cV,big,h0,h1,h2,h3,h4,h5,bs,bQ,reduceIte],hM.below⟩
      ·
       have h5d := of_decide_eq_false h5
       refine zk (zB [0,1,0,1,0,1,0,1,0,1,0] [(b0,1),(b0,1),(b0,1),(b0,1),(b0,1)] (cJ (fun b1 => (aY 1 b1 (zn (zs (zQ 1 (zn (aB (gX (α := Nat) (fun x => match x with | 0 => [1,2,3,4].zip [(Pt b0 0),(I6 0),(Pt b1 0),(I6 0)] | 1 => [1,2,3,4].zip [(Pt b0 0),(I6 0),(Pt b1 0),(I6 1)] | 2 => [1,2,3,4].zip [(Pt b0 0),(I6 0),(Pt b1 0),(I6 2)] | 3 => [1,2,3,4].zip [(Pt b0 0),(I6 0),(Pt b1 0),(I6 3)] | 4 => [1,2,3,4].zip [(Pt b0 0),(I6 0),(Pt b1 0),(I6 4)] | _ => [1,2,3,4].zip [(Pt b0 0),(I6 0),(Pt b1 0),(I6 5)]) (fun _ => View.no) (fun x => [(bK b0 p.cs 26),(bK b1 [(N6 p.time),(N6 p.seq),(N6 p.life),(N6 p.off),(N6 p.tot)] 189)]) (fun x => x ≤ 5 ∧ (0 < x → (decide ((p.time : Int) > 1099511627776)) = false) ∧ (1 < x → (decide ((p.seq : Int) > 1099511627776)) = false) ∧ (2 < x → (decide ((p.life : Int) > 1099511627776)) = false) ∧ (3 < x → (decide ((p.off : Int) > 1099511627776)) = false) ∧ (4 < x → (decide ((p.tot : Int) > 1099511627776)) = false)) (fun x => 5 - x) 0 ⟨by omega,fun h => absurd h oW,fun h => absurd h oW,fun h => absurd h oW,fun h => absurd h oW,fun h => absurd h oW⟩ ?_))))))))))
       rintro x ⟨hx,hc0_0,hc1_0,hc2_0,hc3_0,hc4_0⟩
       rcases (by omega : x = 0 ∨ x = 1 ∨ x = 2 ∨ x = 3 ∨ x = 4 ∨ x = 5) with rfl | rfl | rfl | rfl | rfl | rfl
       ·
        refine zs (zQ 2 (zn (dF (zk (zs (aB (zQ 1 (cH (Pt b1 0) (aA1 _ 22 _ _ rfl b1 0 5 0 1 .i64 kR kR (by first | assumption | omega) kR kR) ?_))))))))
        refine cU [2,0] [(b1,1)] (zn (cD (decide ((p.time : Int) > 1099511627776)) (fun h6 => ?_) (fun h6 => ?_)))
        ·
         refine zQ 1 (zn (aA (aH [2] [(I6 1)] (fun W' hM => ?_))))
         exact ⟨by simp only [cG,cV,big,h0,h1,h2,h3,h4,h5,h6,bs,bQ,reduceIte],hM.below⟩
        ·
         have h6d := of_decide_eq_false h6
         refine zk (zr (zq 3 (zn ?_)))
         refine nx 1 ⟨by omega,fun _ => h6,fun h => absurd h oW,fun h => absurd h oW,fun h => absurd h oW,fun h => absurd h oW⟩ (by show 5 - 1 < 5 - 0; omega)
       ·
        refine zs (zQ 2 (zn (dF (zk (zs (aB (zQ 1 (cH (Pt b1 1) (aA1 _ 22 _ _ rfl b1 0 5 1 1 .i64 kR kR (by first | assumption | omega) kR kR) ?_))))))))
        refine cU [2,0] [(b1,1)] (zn (cD (decide ((p.seq : Int) > 1099511627776)) (fun h7 => ?_) (fun h7 => ?_)))
        ·
         have h7d := of_decide_eq_true h7
         refine zQ 1 (zn (aA (aH [2] [(I6 1)] (fun W' hM => ?_))))
         exact ⟨by simp only [cG,cV,big,(hc0_0 oW),h0,h1,h2,h3,h4,h5,h7,bs,bQ,reduceIte],hM.below⟩
        ·
         have h7d := of_decide_eq_false h7
         refine zk (zr (zq 3 (zn ?_)))
         refine nx 2 ⟨by omega,fun _ => hc0_0 oW,fun _ => h7,fun h => absurd h oW,fun h => absurd h oW,fun h => absurd h oW⟩ (by show 5 - 2 < 5 - 1; omega)
       ·
        refine zs (zQ 2 (zn (dF (zk (zs (aB (zQ 1 (cH (Pt b1 2) (aA1 _ 22 _ _ rfl b1 0 5 2 1 .i64 kR kR (by first | assumption | omega) kR kR) ?_))))))))
        refine cU [2,0] [(b1,1)] (zn (cD (decide ((p.life : Int) > 1099511627776)) (fun h8 => ?_) (fun h8 => ?_)))
        ·
         have h8d := of_decide_eq_true h8
         refine zQ 1 (zn (aA (aH [2] [(I6 1)] (fun W' hM => ?_))))
         exact ⟨by simp only [cG,cV,big,(hc0_0 oW),(hc1_0 oW),h0,h1,h2,h3,h4,h5,h8,bs,bQ,reduceIte],hM.below⟩
        ·
         have h8d := of_decide_eq_false h8
         refine zk (zr (zq 3 (zn ?_)))
         refine nx 3 ⟨by omega,fun _ => hc0_0 oW,fun _ => hc1_0 oW,fun _ => h8,fun h => absurd h oW,fun h => absurd h oW⟩ (by show 5 - 3 < 5 - 2; omega)
       ·
        refine zs (zQ 2 (zn (dF (zk (zs (aB (zQ 1 (cH (Pt b1 3) (aA1 _ 22 _ _ rfl b1 0 5 3 1 .i64 kR kR (by first | assumption | omega) kR kR) ?_))))))))
        refine cU [2,0] [(b1,1)] (zn (cD (decide ((p.off : Int) > 1099511627776)) (fun h9 => ?_) (fun h9 => ?_)))
        ·
         have h9d := of_decide_eq_true h9
         refine zQ 1 (zn (aA (aH [2] [(I6 1)] (fun W' hM => ?_))))
         exact ⟨by simp only [cG,cV,big,(hc0_0 oW),(hc1_0 oW),(hc2_0 oW),h0,h1,h2,h3,h4,h5,h9,bs,bQ,reduceIte],hM.below⟩
        ·
         have h9d := of_decide_eq_false h9
         refine zk (zr (zq 3 (zn ?_)))
         refine nx 4 ⟨by omega,fun _ => hc0_0 oW,fun _ => hc1_0 oW,fun _ => hc2_0 oW,fun _ => h9,fun h => absurd h oW⟩ (by show 5 - 4 < 5 - 3; omega)
       ·
        refine zs (zQ 2 (zn (dF (zk (zs (aB (zQ 1 (cH (Pt b1 4) (aA1 _ 22 _ _ rfl b1 0 5 4 1 .i64 kR kR (by first | assumption | omega) kR kR) ?_))))))))
        refine cU [2,0] [(b1,1)] (zn (cD (decide ((p.tot : Int) > 1099511627776)) (fun h10 => ?_) (fun h10 => ?_)))
        ·
         have h10d := of_decide_eq_true h10
         refine zQ 1 (zn (aA (aH [2] [(I6 1)] (fun W' hM => ?_))))
         exact ⟨by simp only [cG,cV,big,(hc0_0 oW),(hc1_0 oW),(hc2_0 oW),(hc3_0 oW),h0,h1,h10,h2,h3,h4,h5,bs,bQ,reduceIte],hM.below⟩
        ·
         have h10d := of_decide_eq_false h10
         refine zk (zr (zq 3 (zn ?_)))
         refine nx 5 ⟨by omega,fun _ => hc0_0 oW,fun _ => hc1_0 oW,fun _ => hc2_0 oW,fun _ => hc3_0 oW,fun _ => h10⟩ (by show 5 - 5 < 5 - 4; omega)
       ·
        refine zs (zQ 2 (zn (dE (aU (zB [0,1] [(b0,1)] (dL (fun W hM => aII p.f h.f W) (zq 1 (zn (zB [0,1] [(b0,1)] (dL (fun W hM => aGV p.f h.f W) (zq 1 (aK 64 (hasB p.f 16384) (fun h11 => ?_) (fun h11 => ?_)))))))))))))
        ·
         refine zq 5 (zn (zs (zQ 2 (aK 70 (hasB p.f 1) (fun h12 => ?_) (fun h12 => ?_)))))
         ·
          refine cU [0,1] [(b0,1)] (dL (fun W hM => aF0 p.f h.f W) (zq 1 (aK 74 (hasB p.f 4) (fun h13 => ?_) (fun h13 => ?_))))
          ·
           refine zq 21 (zn (dF (zQ 1 (zn (aA (aH [2] [(I6 8)] (fun W' hM => ?_)))))))
           exact ⟨by simp only [cG,cV,big,(hc0_0 oW),(hc1_0 oW),(hc2_0 oW),(hc3_0 oW),(hc4_0 oW),h0,h1,h11,h12,h13,h2,h3,h4,h5,bs,bQ,reduceIte],hM.below⟩
          ·
           refine cU [0,1,0,1,0,0,0,0] [(b0,1),(b0,1)] (aK 82 (decide ((p.off : Int) ≥ (p.tot : Int))) (fun h14 => ?_) (fun h14 => ?_))
           ·
            have h14d := of_decide_eq_true h14
            refine zq 13 (zn (dF (zQ 1 (zn (aA (aH [2] [(I6 8)] (fun W' hM => ?_)))))))
            exact ⟨by simp only [cG,cV,big,(hc0_0 oW),(hc1_0 oW),(hc2_0 oW),(hc3_0 oW),(hc4_0 oW),h0,h1,h11,h12,h13,h14,h2,h3,h4,h5,bs,bQ,reduceIte],hM.below⟩
           ·
            have h14d := of_decide_eq_false h14
            refine zq 3 (eE 85 (.bool (!(hasB p.f 1))) (.bool false) (congrArg Value.bool (by rw [h12]; rfl)) ?_)
            refine zq 10 (zn (dE (zk (zB [0,0,1,0,0] [(b0,1)] (aK 100 (p.src.s == 1) (fun h15 => ?_) (fun h15 => ?_))))))
            ·
             have h15d := eq_of_beq h15
             refine cU [0,0,1] [(b0,1)] (cH (.bool (p.src.l == [110,111,110,101])) (eJ _ _ _ _ rfl p.src.l [110,111,110,101] kR kR) ?_)
             refine zq 2 (zn (zs (zQ 4 (aK 109 (p.src.l == [110,111,110,101]) (fun h16 => ?_) (fun h16 => ?_)))))
             ·
              have h16d := eq_of_beq h16
              refine zq 14 (zn (dF (zQ 1 (zn (aA (aH [2] [(I6 8)] (fun W' hM => ?_)))))))
              exact ⟨by simp only [cG,cV,big,(hc0_0 oW),(hc1_0 oW),(hc2_0 oW),(hc3_0 oW),(hc4_0 oW),h0,h1,h11,h12,h13,h14,h15,h16,h2,h3,h4,h5,bs,bQ,reduceIte],hM.below⟩
             ·
              have h16d := beq_eq_false_iff_ne.1 h16
              refine cU [0,1] [(b0,1)] (dL (fun W hM => aAq p.f h.f W) (zq 3 (aK 115 (hasB p.f 2) (fun h17 => ?_) (fun h17 => ?_))))
              ·
               refine zq 8 (zn (dF (zQ 1 (zn (aA (aH [2] [(I6 8)] (fun W' hM => ?_)))))))
               exact ⟨by simp only [cG,cV,big,(hc0_0 oW),(hc1_0 oW),(hc2_0 oW),(hc3_0 oW),(hc4_0 oW),h0,h1,h11,h12,h13,h14,h15,h16,h17,h2,h3,h4,h5,bs,bQ,reduceIte],hM.below⟩
              ·
               refine zq 2 (eE 117 (.bool (p.src.l == [110,111,110,101])) (.bool false) (congrArg Value.bool h16) ?_)
               refine zq 6 (zn (dE (zk (zQ 1 (zn (aA (aH [2] [(I6 0)] (fun W' hM => ?_))))))))
               exact ⟨by simp only [cG,cV,big,(hc0_0 oW),(hc1_0 oW),(hc2_0 oW),(hc3_0 oW),(hc4_0 oW),h0,h1,h11,h12,h13,h14,h15,h16,h17,h2,h3,h4,h5,bs,bQ,reduceIte],hM.below⟩
            ·
             have h15d := beq_eq_false_iff_ne.1 h15
             refine zq 6 (zn (zs (zB [0,0,0,0,0,1] [(b0,1)] (dL (fun W hM => aAq p.f h.f W) (zq 3 (aK 115 (hasB p.f 2) (fun h18 => ?_) (fun h18 => ?_)))))))
             ·
              refine zq 8 (zn (dF (zQ 1 (zn (aA (aH [2] [(I6 8)] (fun W' hM => ?_)))))))
              exact ⟨by simp only [cG,cV,big,(hc0_0 oW),(hc1_0 oW),(hc2_0 oW),(hc3_0 oW),(hc4_0 oW),h0,h1,h11,h12,h13,h14,h15,h18,h2,h3,h4,h5,bs,bQ,reduceIte],hM.below⟩
             ·
              refine zq 8 (zn (dE (zk (zQ 1 (zn (aA (aH [2] [(I6 0)] (fun W' hM => ?_))))))))
              exact ⟨by simp only [cG,cV,big,(hc0_0 oW),(hc1_0 oW),(hc2_0 oW),(hc3_0 oW),(hc4_0 oW),h0,h1,h11,h12,h13,h14,h15,h18,h2,h3,h4,h5,bs,bQ,reduceIte],hM.below⟩
         ·
          refine zq 15 (eE 85 (.bool (!(hasB p.f 1))) (.bool true) (congrArg Value.bool (by rw [h12]; rfl)) ?_)
          refine cU [0,1,0,0] [(b0,1)] (aK 89 (decide ((p.off : Int) > 0)) (fun h19 => ?_) (fun h19 => ?_))
          ·
           have h19d := of_decide_eq_true h19
           refine zq 6 (zn (dF (zQ 1 (zn (aA (aH [2] [(I6 8)] (fun W' hM => ?_)))))))
           exact ⟨by simp only [cG,cV,big,(hc0_0 oW),(hc1_0 oW),(hc2_0 oW),(hc3_0 oW),(hc4_0 oW),h0,h1,h11,h12,h19,h2,h3,h4,h5,bs,bQ,reduceIte],hM.below⟩
          ·
           have h19d := of_decide_eq_false h19
           refine cU [0,1,0,0,0,0] [(b0,1)] (zn (cD (decide ((p.tot : Int) > 0)) (fun h20 => ?_) (fun h20 => ?_)))
           ·
            have h20d := of_decide_eq_true h20
            refine zQ 1 (zn (aA (aH [2] [(I6 8)] (fun W' hM => ?_))))
            exact ⟨by simp only [cG,cV,big,(hc0_0 oW),(hc1_0 oW),(hc2_0 oW),(hc3_0 oW),(hc4_0 oW),h0,h1,h11,h12,h19,h2,h20,h3,h4,h5,bs,bQ,reduceIte],hM.below⟩
           ·
            have h20d := of_decide_eq_false h20
            refine zk (zB [0,0,1,0,0] [(b0,1)] (aK 100 (p.src.s == 1) (fun h21 => ?_) (fun h21 => ?_)))
            ·
             have h21d := eq_of_beq h21
             refine cU [0,0,1] [(b0,1)] (cH (.bool (p.src.l == [110,111,110,101])) (eJ _ _ _ _ rfl p.src.l [110,111,110,101] kR kR) ?_)
             refine zq 2 (zn (zs (zQ 4 (aK 109 (p.src.l == [110,111,110,101]) (fun h22 => ?_) (fun h22 => ?_)))))
             ·
              have h22d := eq_of_beq h22
              refine zq 14 (zn (dF (zQ 1 (zn (aA (aH [2] [(I6 8)] (fun W' hM => ?_)))))))
              exact ⟨by simp only [cG,cV,big,(hc0_0 oW),(hc1_0 oW),(hc2_0 oW),(hc3_0 oW),(hc4_0 oW),h0,h1,h11,h12,h19,h2,h20,h21,h22,h3,h4,h5,bs,bQ,reduceIte],hM.below⟩
             ·
              have h22d := beq_eq_false_iff_ne.1 h22
              refine cU [0,1] [(b0,1)] (dL (fun W hM => aAq p.f h.f W) (zq 3 (aK 115 (hasB p.f 2) (fun h23 => ?_) (fun h23 => ?_))))
              ·
               refine zq 8 (zn (dF (zQ 1 (zn (aA (aH [2] [(I6 8)] (fun W' hM => ?_)))))))
               exact ⟨by simp only [cG,cV,big,(hc0_0 oW),(hc1_0 oW),(hc2_0 oW),(hc3_0 oW),(hc4_0 oW),h0,h1,h11,h12,h19,h2,h20,h21,h22,h23,h3,h4,h5,bs,bQ,reduceIte],hM.below⟩
              ·
               refine zq 2 (eE 117 (.bool (p.src.l == [110,111,110,101])) (.bool false) (congrArg Value.bool h22) ?_)
               refine zq 6 (zn (dE (zk (zQ 1 (zn (aA (aH [2] [(I6 0)] (fun W' hM => ?_))))))))
               exact ⟨by simp only [cG,cV,big,(hc0_0 oW),(hc1_0 oW),(hc2_0 oW),(hc3_0 oW),(hc4_0 oW),h0,h1,h11,h12,h19,h2,h20,h21,h22,h23,h3,h4,h5,bs,bQ,reduceIte],hM.below⟩
            ·
             have h21d := beq_eq_false_iff_ne.1 h21
             refine zq 6 (zn (zs (zB [0,0,0,0,0,1] [(b0,1)] (dL (fun W hM => aAq p.f h.f W) (zq 3 (aK 115 (hasB p.f 2) (fun h24 => ?_) (fun h24 => ?_)))))))
             ·
              refine zq 8 (zn (dF (zQ 1 (zn (aA (aH [2] [(I6 8)] (fun W' hM => ?_)))))))
              exact ⟨by simp only [cG,cV,big,(hc0_0 oW),(hc1_0 oW),(hc2_0 oW),(hc3_0 oW),(hc4_0 oW),h0,h1,h11,h12,h19,h2,h20,h21,h24,h3,h4,h5,bs,bQ,reduceIte],hM.below⟩
             ·
              refine zq 8 (zn (dE (zk (zQ 1 (zn (aA (aH [2] [(I6 0)] (fun W' hM => ?_))))))))
              exact ⟨by simp only [cG,cV,big,(hc0_0 oW),(hc1_0 oW),(hc2_0 oW),(hc3_0 oW),(hc4_0 oW),h0,h1,h11,h12,h19,h2,h20,h21,h24,h3,h4,h5,bs,bQ,reduceIte],hM.below⟩
        ·
         refine cU [0,1] [(b0,1)] (dL (fun W hM => aE8 p.f h.f W) (zq 2 (zn (zs (zQ 2 (aK 70 (hasB p.f 1) (fun h25 => ?_) (fun h25 => ?_)))))))
         ·
          refine cU [0,1] [(b0,1)] (dL (fun W hM => aF0 p.f h.f W) (zq 1 (aK 74 (hasB p.f 4) (fun h26 => ?_) (fun h26 => ?_))))
          ·
           refine zq 21 (zn (dF (zQ 1 (zn (aA (aH [2] [(I6 8)] (fun W' hM => ?_)))))))
           exact ⟨by simp only [cG,cV,big,(hc0_0 oW),(hc1_0 oW),(hc2_0 oW),(hc3_0 oW),(hc4_0 oW),h0,h1,h11,h2,h25,h26,h3,h4,h5,bs,bQ,reduceIte],hM.below⟩
          ·
           refine cU [0,1,0,1,0,0,0,0] [(b0,1),(b0,1)] (aK 82 (decide ((p.off : Int) ≥ (p.tot : Int))) (fun h27 => ?_) (fun h27 => ?_))
           ·
            have h27d := of_decide_eq_true h27
            refine zq 13 (zn (dF (zQ 1 (zn (aA (aH [2] [(I6 8)] (fun W' hM => ?_)))))))
            exact ⟨by simp only [cG,cV,big,(hc0_0 oW),(hc1_0 oW),(hc2_0 oW),(hc3_0 oW),(hc4_0 oW),h0,h1,h11,h2,h25,h26,h27,h3,h4,h5,bs,bQ,reduceIte],hM.below⟩
           ·
            have h27d := of_decide_eq_false h27
            refine zq 3 (eE 85 (.bool (!(hasB p.f 1))) (.bool false) (congrArg Value.bool (by rw [h25]; rfl)) ?_)
            refine zq 10 (zn (dE (zk (zB [0,0,1,0,0] [(b0,1)] (aK 100 (p.src.s == 1) (fun h28 => ?_) (fun h28 => ?_))))))
            ·
             have h28d := eq_of_beq h28
             refine cU [0,0,1] [(b0,1)] (cH (.bool (p.src.l == [110,111,110,101])) (eJ _ _ _ _ rfl p.src.l [110,111,110,101] kR kR) ?_)
             refine zq 2 (zn (zs (zQ 2 (aK 107 (hasB p.f 262144) (fun h29 => ?_) (fun h29 => ?_)))))
             ·
              refine zq 2 (aK 109 (p.src.l == [110,111,110,101]) (fun h30 => ?_) (fun h30 => ?_))
              ·
               have h30d := eq_of_beq h30
               refine zq 14 (zn (dF (zQ 1 (zn (aA (aH [2] [(I6 8)] (fun W' hM => ?_)))))))
               exact ⟨by simp only [cG,cV,big,(hc0_0 oW),(hc1_0 oW),(hc2_0 oW),(hc3_0 oW),(hc4_0 oW),h0,h1,h11,h2,h25,h26,h27,h28,h29,h3,h30,h4,h5,bs,bQ,reduceIte],hM.below⟩
              ·
               have h30d := beq_eq_false_iff_ne.1 h30
               refine cU [0,1] [(b0,1)] (dL (fun W hM => aAq p.f h.f W) (zq 3 (aK 115 (hasB p.f 2) (fun h31 => ?_) (fun h31 => ?_))))
               ·
                refine zq 8 (zn (dF (zQ 1 (zn (aA (aH [2] [(I6 8)] (fun W' hM => ?_)))))))
                exact ⟨by simp only [cG,cV,big,(hc0_0 oW),(hc1_0 oW),(hc2_0 oW),(hc3_0 oW),(hc4_0 oW),h0,h1,h11,h2,h25,h26,h27,h28,h29,h3,h30,h31,h4,h5,bs,bQ,reduceIte],hM.below⟩
               ·
                refine zq 2 (eE 117 (.bool (p.src.l == [110,111,110,101])) (.bool false) (congrArg Value.bool h30) ?_)
                refine zq 6 (zn (dE (zk (zQ 1 (zn (aA (aH [2] [(I6 0)] (fun W' hM => ?_))))))))
                exact ⟨by simp only [cG,cV,big,(hc0_0 oW),(hc1_0 oW),(hc2_0 oW),(hc3_0 oW),(hc4_0 oW),h0,h1,h11,h2,h25,h26,h27,h28,h29,h3,h30,h31,h4,h5,bs,bQ,reduceIte],hM.below⟩
             ·
              refine zq 10 (aK 117 (p.src.l == [110,111,110,101]) (fun h32 => ?_) (fun h32 => ?_))
              ·
               have h32d := eq_of_beq h32
               refine cU [0,1] [(b0,1)] (dL (fun W hM => aF0 p.f h.f W) (zq 3 (zn (gP (!(hasB p.f 4)) (by rw [h26]; rfl) ?_))))
               refine zQ 1 (zn (aA (aH [2] [(I6 8)] (fun W' hM => ?_))))
               exact ⟨by simp only [cG,cV,big,(hc0_0 oW),(hc1_0 oW),(hc2_0 oW),(hc3_0 oW),(hc4_0 oW),h0,h1,h11,h2,h25,h26,h27,h28,h29,h3,h32,h4,h5,bs,bQ,reduceIte],hM.below⟩
              ·
               have h32d := beq_eq_false_iff_ne.1 h32
               refine zq 6 (zn (dE (zk (zQ 1 (zn (aA (aH [2] [(I6 0)] (fun W' hM => ?_))))))))
               exact ⟨by simp only [cG,cV,big,(hc0_0 oW),(hc1_0 oW),(hc2_0 oW),(hc3_0 oW),(hc4_0 oW),h0,h1,h11,h2,h25,h26,h27,h28,h29,h3,h32,h4,h5,bs,bQ,reduceIte],hM.below⟩
            ·
             have h28d := beq_eq_false_iff_ne.1 h28
             refine zq 6 (zn (zs (zQ 2 (aK 107 (hasB p.f 262144) (fun h33 => ?_) (fun h33 => ?_)))))
             ·
              refine cU [0,0,0,1] [(b0,1)] (dL (fun W hM => aAq p.f h.f W) (zq 3 (aK 115 (hasB p.f 2) (fun h34 => ?_) (fun h34 => ?_))))
              ·
               refine zq 8 (zn (dF (zQ 1 (zn (aA (aH [2] [(I6 8)] (fun W' hM => ?_)))))))
               exact ⟨by simp only [cG,cV,big,(hc0_0 oW),(hc1_0 oW),(hc2_0 oW),(hc3_0 oW),(hc4_0 oW),h0,h1,h11,h2,h25,h26,h27,h28,h3,h33,h34,h4,h5,bs,bQ,reduceIte],hM.below⟩
              ·
               refine zq 8 (zn (dE (zk (zQ 1 (zn (aA (aH [2] [(I6 0)] (fun W' hM => ?_))))))))
               exact ⟨by simp only [cG,cV,big,(hc0_0 oW),(hc1_0 oW),(hc2_0 oW),(hc3_0 oW),(hc4_0 oW),h0,h1,h11,h2,h25,h26,h27,h28,h3,h33,h34,h4,h5,bs,bQ,reduceIte],hM.below⟩
             ·
              refine zq 16 (zn (dE (zk (zQ 1 (zn (aA (aH [2] [(I6 0)] (fun W' hM => ?_))))))))
              exact ⟨by simp only [cG,cV,big,(hc0_0 oW),(hc1_0 oW),(hc2_0 oW),(hc3_0 oW),(hc4_0 oW),h0,h1,h11,h2,h25,h26,h27,h28,h3,h33,h4,h5,bs,bQ,reduceIte],hM.below⟩
         ·
          refine zq 15 (eE 85 (.bool (!(hasB p.f 1))) (.bool true) (congrArg Value.bool (by rw [h25]; rfl)) ?_)
          refine cU [0,1,0,0] [(b0,1)] (aK 89 (decide ((p.off : Int) > 0)) (fun h35 => ?_) (fun h35 => ?_))
          ·
           have h35d := of_decide_eq_true h35
           refine zq 6 (zn (dF (zQ 1 (zn (aA (aH [2] [(I6 8)] (fun W' hM => ?_)))))))
           exact ⟨by simp only [cG,cV,big,(hc0_0 oW),(hc1_0 oW),(hc2_0 oW),(hc3_0 oW),(hc4_0 oW),h0,h1,h11,h2,h25,h3,h35,h4,h5,bs,bQ,reduceIte],hM.below⟩
          ·
           have h35d := of_decide_eq_false h35
           refine cU [0,1,0,0,0,0] [(b0,1)] (zn (cD (decide ((p.tot : Int) > 0)) (fun h36 => ?_) (fun h36 => ?_)))
           ·
            have h36d := of_decide_eq_true h36
            refine zQ 1 (zn (aA (aH [2] [(I6 8)] (fun W' hM => ?_))))
            exact ⟨by simp only [cG,cV,big,(hc0_0 oW),(hc1_0 oW),(hc2_0 oW),(hc3_0 oW),(hc4_0 oW),h0,h1,h11,h2,h25,h3,h35,h36,h4,h5,bs,bQ,reduceIte],hM.below⟩
           ·
            have h36d := of_decide_eq_false h36
            refine zk (zB [0,0,1,0,0] [(b0,1)] (aK 100 (p.src.s == 1) (fun h37 => ?_) (fun h37 => ?_)))
            ·
             have h37d := eq_of_beq h37
             refine cU [0,0,1] [(b0,1)] (cH (.bool (p.src.l == [110,111,110,101])) (eJ _ _ _ _ rfl p.src.l [110,111,110,101] kR kR) ?_)
             refine zq 2 (zn (zs (zQ 2 (aK 107 (hasB p.f 262144) (fun h38 => ?_) (fun h38 => ?_)))))
             ·
              refine zq 2 (aK 109 (p.src.l == [110,111,110,101]) (fun h39 => ?_) (fun h39 => ?_))
              ·
               have h39d := eq_of_beq h39
               refine zq 14 (zn (dF (zQ 1 (zn (aA (aH [2] [(I6 8)] (fun W' hM => ?_)))))))
               exact ⟨by simp only [cG,cV,big,(hc0_0 oW),(hc1_0 oW),(hc2_0 oW),(hc3_0 oW),(hc4_0 oW),h0,h1,h11,h2,h25,h3,h35,h36,h37,h38,h39,h4,h5,bs,bQ,reduceIte],hM.below⟩
              ·
               have h39d := beq_eq_false_iff_ne.1 h39
               refine cU [0,1] [(b0,1)] (dL (fun W hM => aAq p.f h.f W) (zq 3 (aK 115 (hasB p.f 2) (fun h40 => ?_) (fun h40 => ?_))))
               ·
                refine zq 8 (zn (dF (zQ 1 (zn (aA (aH [2] [(I6 8)] (fun W' hM => ?_)))))))
                exact ⟨by simp only [cG,cV,big,(hc0_0 oW),(hc1_0 oW),(hc2_0 oW),(hc3_0 oW),(hc4_0 oW),h0,h1,h11,h2,h25,h3,h35,h36,h37,h38,h39,h4,h40,h5,bs,bQ,reduceIte],hM.below⟩
               ·
                refine zq 2 (eE 117 (.bool (p.src.l == [110,111,110,101])) (.bool false) (congrArg Value.bool h39) ?_)
                refine zq 6 (zn (dE (zk (zQ 1 (zn (aA (aH [2] [(I6 0)] (fun W' hM => ?_))))))))
                exact ⟨by simp only [cG,cV,big,(hc0_0 oW),(hc1_0 oW),(hc2_0 oW),(hc3_0 oW),(hc4_0 oW),h0,h1,h11,h2,h25,h3,h35,h36,h37,h38,h39,h4,h40,h5,bs,bQ,reduceIte],hM.below⟩
             ·
              refine zq 10 (aK 117 (p.src.l == [110,111,110,101]) (fun h41 => ?_) (fun h41 => ?_))
              ·
               have h41d := eq_of_beq h41
               refine cU [0,1] [(b0,1)] (dL (fun W hM => aF0 p.f h.f W) (zq 3 (zn (cD (!(hasB p.f 4)) (fun h42 => ?_) (fun h42 => ?_)))))
               ·
                refine zQ 1 (zn (aA (aH [2] [(I6 8)] (fun W' hM => ?_))))
                exact ⟨by simp only [cG,cV,big,(hc0_0 oW),(hc1_0 oW),(hc2_0 oW),(hc3_0 oW),(hc4_0 oW),h0,h1,h11,h2,h25,h3,h35,h36,h37,h38,h4,h41,h42,h5,bs,bQ,reduceIte],hM.below⟩
               ·
                refine zk (zQ 1 (zn (aA (aH [2] [(I6 0)] (fun W' hM => ?_)))))
                exact ⟨by simp only [cG,cV,big,(hc0_0 oW),(hc1_0 oW),(hc2_0 oW),(hc3_0 oW),(hc4_0 oW),h0,h1,h11,h2,h25,h3,h35,h36,h37,h38,h4,h41,h42,h5,bs,bQ,reduceIte],hM.below⟩
              ·
               have h41d := beq_eq_false_iff_ne.1 h41
               refine zq 6 (zn (dE (zk (zQ 1 (zn (aA (aH [2] [(I6 0)] (fun W' hM => ?_))))))))
               exact ⟨by simp only [cG,cV,big,(hc0_0 oW),(hc1_0 oW),(hc2_0 oW),(hc3_0 oW),(hc4_0 oW),h0,h1,h11,h2,h25,h3,h35,h36,h37,h38,h4,h41,h5,bs,bQ,reduceIte],hM.below⟩
            ·
             have h37d := beq_eq_false_iff_ne.1 h37
             refine zq 6 (zn (zs (zQ 2 (aK 107 (hasB p.f 262144) (fun h43 => ?_) (fun h43 => ?_)))))
             ·
              refine cU [0,0,0,1] [(b0,1)] (dL (fun W hM => aAq p.f h.f W) (zq 3 (aK 115 (hasB p.f 2) (fun h44 => ?_) (fun h44 => ?_))))
              ·
               refine zq 8 (zn (dF (zQ 1 (zn (aA (aH [2] [(I6 8)] (fun W' hM => ?_)))))))
               exact ⟨by simp only [cG,cV,big,(hc0_0 oW),(hc1_0 oW),(hc2_0 oW),(hc3_0 oW),(hc4_0 oW),h0,h1,h11,h2,h25,h3,h35,h36,h37,h4,h43,h44,h5,bs,bQ,reduceIte],hM.below⟩
              ·
               refine zq 8 (zn (dE (zk (zQ 1 (zn (aA (aH [2] [(I6 0)] (fun W' hM => ?_))))))))
               exact ⟨by simp only [cG,cV,big,(hc0_0 oW),(hc1_0 oW),(hc2_0 oW),(hc3_0 oW),(hc4_0 oW),h0,h1,h11,h2,h25,h3,h35,h36,h37,h4,h43,h44,h5,bs,bQ,reduceIte],hM.below⟩
             ·
              refine zq 16 (zn (dE (zk (zQ 1 (zn (aA (aH [2] [(I6 0)] (fun W' hM => ?_))))))))
              exact ⟨by simp only [cG,cV,big,(hc0_0 oW),(hc1_0 oW),(hc2_0 oW),(hc3_0 oW),(hc4_0 oW),h0,h1,h11,h2,h25,h3,h35,h36,h37,h4,h43,h5,bs,bQ,reduceIte],hM.below⟩
theorem aK2 {e : Ei} (h : aX e = true) : decide (e.s = 1 ∧ e.l = [110, 111, 110, 101] ∧ (e.n : Int) = 0 ∧ (e.v : Int) = 0) = ((e.s == 1) && (e.l == [110, 111, 110, 101])) := by
 rw [Bool.eq_iff_iff]
 simp only [decide_eq_true_eq, Bool.and_eq_true, beq_iff_eq]
 refine ⟨fun h => ⟨h.1, h.2.1⟩, fun ⟨h1, h2⟩ => ⟨h1, h2, ?_⟩⟩
 unfold aX Eid.gM at h
 rw [h1] at h
 simp at h
 omega
theorem aNp (a b : Int) : (a != b) = !(a == b) := rfl
theorem aB6 (p : Pr) (h : p.ok) : cV p = aO p := by
 have h4 : (gC .u64 (p.f : Int) 4 == 0) = !hasB p.f 4 := by rw [← aOi p.f h.f, aNp, Bool.not_not]
 unfold cV aO
 rw [aOj p.f h.f, aOi p.f h.f, aOD p.f h.f, aN9 p.f h.f, h4]
 have ho : ((p.off : Int) != 0) = decide ((p.off : Int) > 0) := by
  rw [Bool.eq_iff_iff]; simp only [bne_iff_ne, ne_eq, decide_eq_true_eq]; omega
 have ht : ((p.tot : Int) != 0) = decide ((p.tot : Int) > 0) := by
  rw [Bool.eq_iff_iff]; simp only [bne_iff_ne, ne_eq, decide_eq_true_eq]; omega
 rw [ho, ht]
 have hr : (!dS p) = ((!aX p.dst || !aX p.src || !aX p.rpt || decide (p.c < 0) || decide (p.c > 2) || decide ((p.f : Int) ≥ 2097152)) || (big p.time || big p.seq || big p.life || big p.off || big p.tot)) := by
  unfold dS
  rw [show decide (p.c < 0) = !decide (p.c ≥ 0) by rw [← decide_not]; congr 1; exact propext oW, show decide (p.c > 2) = !decide (p.c ≤ 2) by rw [← decide_not]; congr 1; exact propext oW,
   show decide ((p.f : Int) ≥ 2097152) = !decide ((p.f : Int) < 2097152) by rw [← decide_not]; congr 1; exact propext oW]
  generalize big p.time = a1
  generalize big p.seq = a2
  generalize big p.life = a3
  generalize big p.off = a4
  generalize big p.tot = a5
  generalize aX p.dst = a6
  generalize aX p.src = a7
  generalize aX p.rpt = a8
  generalize decide (p.c ≥ 0) = a9
  generalize decide (p.c ≤ 2) = a10
  generalize decide ((p.f : Int) < 2097152) = a11
  cases a1 <;> cases a2 <;> cases a3 <;> cases a4 <;> cases a5 <;> try (simp)
  all_goals cases a6 <;> cases a7 <;> cases a8 <;> cases a9 <;> cases a10 <;> cases a11 <;> rfl
 by_cases hA : (!aX p.dst || !aX p.src || !aX p.rpt || decide (p.c < 0) || decide (p.c > 2) || decide ((p.f : Int) ≥ 2097152)) = true
 · rw [if_pos hA, hr, if_pos (by rw [hA]; rfl)]
 rw [if_neg hA]
 have hA' := Bool.eq_false_iff.2 hA
 by_cases hB : (big p.time || big p.seq || big p.life || big p.off || big p.tot) = true
 · rw [if_pos hB, hr, if_pos (by rw [hB, Bool.or_true])]
 have hP : (!dS p) = false := by rw [hr, hA', Bool.eq_false_iff.2 hB]; rfl
 rw [if_neg hB, hP, if_neg (by simp : ¬ (false = true))]
 have hs : aX p.src = true := by
  simp only [Bool.or_eq_false_iff, Bool.not_eq_false'] at hA'
  exact hA'.1.1.1.1.2
 rw [aK2 hs]
 generalize ((p.src.s == 1) && (p.src.l == [110, 111, 110, 101])) = s
 generalize hasB p.f 1 = a
 generalize hasB p.f 2 = b
 generalize hasB p.f 4 = c
 generalize (hasB p.f 16384 || hasB p.f 262144) = d
 generalize decide ((p.off : Int) ≥ (p.tot : Int)) = e
 generalize decide ((p.off : Int) > 0) = f
 generalize decide ((p.tot : Int) > 0) = g
 clear hr hA hA' hB ho ht h4 hs h hP
 revert s a b c d e f g
 decide
def fZ (b : Bk) : Int := if decide (b.t < 1) || decide (b.t > 65535) || decide (b.n < 1) || decide (b.n > 65535) || decide ((b.f : Int) > 255) || decide (b.c < 0) || decide (b.c > 2) then 1 else if decide ((b.d.length : Int) > 4000) then 4 else if ((b.t == 1) && (b.n != 1)) || ((b.t != 1) && (b.n == 1)) then 8 else 0
theorem tX (b : Bk) : fZ b = aG b := by
 unfold fZ aG iC
 rw [show decide (b.t < 1) = !decide (b.t ≥ 1) by rw [← decide_not]; congr 1; exact propext oW, show decide (b.t > 65535) = !decide (b.t ≤ 65535) by rw [← decide_not]; congr 1; exact propext oW,
  show decide (b.n < 1) = !decide (b.n ≥ 1) by rw [← decide_not]; congr 1; exact propext oW, show decide (b.n > 65535) = !decide (b.n ≤ 65535) by rw [← decide_not]; congr 1; exact propext oW,
  show (b.t != 1) = !(b.t == 1) from rfl, show (b.n != 1) = !(b.n == 1) from rfl]
 generalize decide (b.t ≥ 1) = a1
 generalize decide (b.t ≤ 65535) = a2
 generalize decide (b.n ≥ 1) = a3
 generalize decide (b.n ≤ 65535) = a4
 generalize (b.t == 1) = a5
 generalize (b.n == 1) = a6
 cases a1 <;> cases a2 <;> cases a3 <;> cases a4 <;> cases a5 <;> cases a6 <;> simp
theorem rA (b : Bk) (w : World) : CP 72 #[b.V] w (Ret (.int .i64 (fZ b)) w) := by
 refine dK 58 Tryz.func72 ?_
 refine zs (zr (cJ (fun b0 => (zq 1 (zn (zs (zB [0,1,0,0] [(b0,1)] (aK 6 (decide (b.t < 1)) (fun h0 => ?_) (fun h0 => ?_)))))))))
 ·
  refine zq 29 (zn (dF (zQ 1 (zn (aA (aH [2] [(I6 1)] (fun W' hM => ?_)))))))
  exact ⟨by simp only [cG,fZ,h0,bs,bQ,reduceIte],hM.below⟩
 ·
  refine cU [0,1,0,0,0] [(b0,1)] (aK 11 (decide (b.t > 65535)) (fun h1 => ?_) (fun h1 => ?_))
  ·
   refine zq 24 (zn (dF (zQ 1 (zn (aA (aH [2] [(I6 1)] (fun W' hM => ?_)))))))
   exact ⟨by simp only [cG,fZ,h0,h1,bs,bQ,reduceIte],hM.below⟩
  ·
   refine cU [0,1,0,0,0] [(b0,1)] (aK 16 (decide (b.n < 1)) (fun h2 => ?_) (fun h2 => ?_))
   ·
    refine zq 19 (zn (dF (zQ 1 (zn (aA (aH [2] [(I6 1)] (fun W' hM => ?_)))))))
    exact ⟨by simp only [cG,fZ,h0,h1,h2,bs,bQ,reduceIte],hM.below⟩
   ·
    refine cU [0,1,0,0,0] [(b0,1)] (aK 21 (decide (b.n > 65535)) (fun h3 => ?_) (fun h3 => ?_))
    ·
     refine zq 14 (zn (dF (zQ 1 (zn (aA (aH [2] [(I6 1)] (fun W' hM => ?_)))))))
     exact ⟨by simp only [cG,fZ,h0,h1,h2,h3,bs,bQ,reduceIte],hM.below⟩
    ·
     refine cU [0,1,0,0,0] [(b0,1)] (aK 26 (decide ((b.f : Int) > 255)) (fun h4 => ?_) (fun h4 => ?_))
     ·
      refine zq 9 (zn (dF (zQ 1 (zn (aA (aH [2] [(I6 1)] (fun W' hM => ?_)))))))
      exact ⟨by simp only [cG,fZ,h0,h1,h2,h3,h4,bs,bQ,reduceIte],hM.below⟩
     ·
      refine cU [0,1,0,0,0] [(b0,1)] (aK 31 (decide (b.c < 0)) (fun h5 => ?_) (fun h5 => ?_))
      ·
       refine zq 4 (zn (dF (zQ 1 (zn (aA (aH [2] [(I6 1)] (fun W' hM => ?_)))))))
       exact ⟨by simp only [cG,fZ,h0,h1,h2,h3,h4,h5,bs,bQ,reduceIte],hM.below⟩
      ·
       refine cU [0,1,0,0] [(b0,1)] (zn (cD (decide (b.c > 2)) (fun h6 => ?_) (fun h6 => ?_)))
       ·
        refine zQ 1 (zn (aA (aH [2] [(I6 1)] (fun W' hM => ?_))))
        exact ⟨by simp only [cG,fZ,h0,h1,h2,h3,h4,h5,h6,bs,bQ,reduceIte],hM.below⟩
       ·
        refine zk (zs (zB [0,1,0,0] [(b0,1)] (zn (cD (decide ((((b.d).length : Nat) : Int) > 4000)) (fun h7 => ?_) (fun h7 => ?_)))))
        ·
         refine zQ 1 (zn (aA (aH [2] [(I6 4)] (fun W' hM => ?_))))
         exact ⟨by simp only [cG,fZ,h0,h1,h2,h3,h4,h5,h6,h7,bs,bQ,reduceIte],hM.below⟩
        ·
         refine zk (zs (zB [0,1,0,0] [(b0,1)] (aK 43 (b.t == 1) (fun h8 => ?_) (fun h8 => ?_))))
         ·
          refine cU [0,1,0,0,0] [(b0,1)] (aK 48 (b.n != 1) (fun h9 => ?_) (fun h9 => ?_))
          ·
           refine zq 9 (zn (dF (zQ 1 (zn (aA (aH [2] [(I6 8)] (fun W' hM => ?_)))))))
           exact ⟨by simp only [cG,fZ,h0,h1,h2,h3,h4,h5,h6,h7,h8,h9,bs,bQ,reduceIte],hM.below⟩
          ·
           refine cU [0,1,0,0] [(b0,1)] (aK 52 (b.t != 1) (fun h10 => ?_) (fun h10 => ?_))
           ·
            refine cU [0,1,0,0,0] [(b0,1)] (zn (cD (b.n == 1) (fun h11 => ?_) (fun h11 => ?_)))
            ·
             refine zQ 1 (zn (aA (aH [2] [(I6 8)] (fun W' hM => ?_))))
             exact ⟨by simp only [cG,fZ,h0,h1,h10,h11,h2,h3,h4,h5,h6,h7,h8,h9,bs,bQ,reduceIte],hM.below⟩
            ·
             refine zk (zQ 1 (zn (aA (aH [2] [(I6 0)] (fun W' hM => ?_)))))
             exact ⟨by simp only [cG,fZ,h0,h1,h10,h11,h2,h3,h4,h5,h6,h7,h8,h9,bs,bQ,reduceIte],hM.below⟩
           ·
            refine zq 5 (zn (dE (zk (zQ 1 (zn (aA (aH [2] [(I6 0)] (fun W' hM => ?_))))))))
            exact ⟨by simp only [cG,fZ,h0,h1,h10,h2,h3,h4,h5,h6,h7,h8,h9,bs,bQ,reduceIte],hM.below⟩
         ·
          refine cU [0,0,0,0,0,0,1,0,0] [(b0,1)] (aK 52 (b.t != 1) (fun h12 => ?_) (fun h12 => ?_))
          ·
           refine cU [0,1,0,0,0] [(b0,1)] (zn (cD (b.n == 1) (fun h13 => ?_) (fun h13 => ?_)))
           ·
            refine zQ 1 (zn (aA (aH [2] [(I6 8)] (fun W' hM => ?_))))
            exact ⟨by simp only [cG,fZ,h0,h1,h12,h13,h2,h3,h4,h5,h6,h7,h8,bs,bQ,reduceIte],hM.below⟩
           ·
            refine zk (zQ 1 (zn (aA (aH [2] [(I6 0)] (fun W' hM => ?_)))))
            exact ⟨by simp only [cG,fZ,h0,h1,h12,h13,h2,h3,h4,h5,h6,h7,h8,bs,bQ,reduceIte],hM.below⟩
          ·
           refine zq 5 (zn (dE (zk (zQ 1 (zn (aA (aH [2] [(I6 0)] (fun W' hM => ?_))))))))
           exact ⟨by simp only [cG,fZ,h0,h1,h12,h2,h3,h4,h5,h6,h7,h8,bs,bQ,reduceIte],hM.below⟩
theorem iS (b : Bk) (w : World) (hb : b.ok) (hr : aG b = 0) : CP 95 #[b.V] w (Ret (.string (B (aD b))) w) := by
 obtain ⟨g1,g2,g3,g4,g5,g6⟩ := fK hr
 unfold iC at g1 g2
 rw [Bool.and_eq_true,decide_eq_true_eq,decide_eq_true_eq] at g1 g2
 have w1 : IntKind.u64.wrap b.t = (b.t.toNat : Int) := by
  have := u64_in (x := b.t) oW oW
  omega
 have w2 : IntKind.u64.wrap b.n = (b.n.toNat : Int) := by
  have := u64_in (x := b.n) oW oW
  omega
 have l1 := Itm.aW 0 b.t.toNat
 have l2 := Itm.aW 0 b.n.toNat
 have l3 := Itm.aW 0 b.f
 refine dK 16 Tryz.func95 ?_
 refine zs (zr (cJ (fun b0 => (zq 1 (zn (zs ?_))))))
 refine gU 4 [0,3,1,1,0,3,1,1,1,0,3,1] [(b0,1),(b0,1),(b0,1)] [.val (N6 b.t.toNat),.val (St (Itm.aD 0 b.t.toNat)),.val (N6 b.n.toNat),.val (St (Itm.aD 0 b.n.toNat)),.val (St ((Itm.aD 0 b.t.toNat) ++ (Itm.aD 0 b.n.toNat))),.val (St (Itm.aD 0 b.f))] ⟨?_,?_,?_,?_,?_,?_,trivial⟩ ?_
 · exact vE (U6 (IntKind.u64.wrap b.t)) (congrArg (Value.int .u64) w1)
 · exact vC 108 #[(I6 0),(N6 b.t.toNat)] (fun W hM => dO 0 b.t.toNat W oW (by first | exact hb.f | (unfold W64; omega)))
 · exact vE (U6 (IntKind.u64.wrap b.n)) (congrArg (Value.int .u64) w2)
 · exact vC 108 #[(I6 0),(N6 b.n.toNat)] (fun W hM => dO 0 b.n.toNat W oW (by first | exact hb.f | (unfold W64; omega)))
 · exact vR (cE _ _ _ _ rfl (Itm.aD 0 b.t.toNat) (Itm.aD 0 b.n.toNat) kR kR oA)
 · exact vC 108 #[(I6 0),(N6 b.f)] (fun W hM => dO 0 b.f W oW (by first | exact hb.f | (unfold W64; omega)))
 refine cH (St (((Itm.aD 0 b.t.toNat) ++ (Itm.aD 0 b.n.toNat)) ++ (Itm.aD 0 b.f))) (cE _ _ _ _ rfl ((Itm.aD 0 b.t.toNat) ++ (Itm.aD 0 b.n.toNat)) (Itm.aD 0 b.f) kR kR oA) ?_
 refine zq 1 (zn (aA (jJ 2)))
theorem aA8 (e : Ei) (w : World) {U : View} (hU : See U w) (he : e.ok) (hr : aX e = true) : CP 110 #[e.V] w (rO w U (aLC e.tree)) := by
 have hn := he.n
 have hv := he.v
 have hl := he.l
 have hs : e.s = 1 ∨ e.s = 2 := by
  unfold aX Eid.gM at hr
  split at hr
  · exact .inl ‹_›
  ·
   split at hr
   · exact .inr ‹_›
   · cases hr
 have hw : IntKind.u64.wrap e.s = (e.s.toNat : Int) := by
  have := u64_in (x := e.s) oW oW
  omega
 refine eG 29 Tryz.func110 hU ?_
 refine zs (zr (cJ (fun b0 => (cJ (fun b1 => (zn (zQ 1 (cJ (fun b2 => (aY 2 b2 (zn (zs (zB [0,1,0] [(b0,1)] (zn (cD (e.s == 2) (fun h0 => ?_) (fun h0 => ?_))))))))))))))))
 ·
  have h0d := eq_of_beq h0
  refine zr (cU [0,1,0,0,1,0] [(b0,1),(b0,1)] ?_)
  refine gO [(I6 0),(N6 e.n),(St []),S0,(.bool false),(I6 0),(N6 e.v),(St []),S0,(.bool false)] 89 (fun r => (Sl r 0 2 2)) kR kR kR (fun g3 V3 hV3 hR3 => ?_)
  have k5 := (TV.num _ e.n (by first | assumption | decide | (unfold W64; omega))).le hV3
  have k6 := (TV.num _ e.v (by first | assumption | decide | (unfold W64; omega))).le hV3
  have hT3 : fG V3 (some ⟨g3,0,none⟩) [(Itm.cN e.n),(Itm.cN e.v)] := fG.lit [((Itm.cN e.n),(iN e.n)),((Itm.cN e.v),(iN e.v))] hR3 ⟨k5,k6,trivial⟩ (show 2 ≤ R47 by decide)
  refine zq 1 (aY 2 b2 (zn (zB [0,1,0] [(b0,1)] (eE 24 (U6 (IntKind.u64.wrap e.s)) (N6 e.s.toNat) (congrArg (Value.int .u64) hw) ?_))))
  refine cU [0,3] [(b2,5)] ?_
  refine gO [(I6 0),(N6 e.s.toNat),(St []),S0,(.bool false),(I6 4),(U6 0),(St []),(Sl g3 0 2 2),(.bool false)] 89 (fun r => (Sl r 0 2 2)) kR kR kR (fun g7 V7 hV7 hR7 => ?_)
  have k12 := (TV.list 2 hT3).le hV7
  have k13 := (TV.num _ e.s.toNat (by first | assumption | decide | (unfold W64; omega))).le hV7
  have hT7 : fG V7 (some ⟨g7,0,none⟩) [(Itm.cN e.s.toNat),(Itm.dH [(Itm.cN e.n),(Itm.cN e.v)])] := fG.lit [((Itm.cN e.s.toNat),(iN e.s.toNat)),((Itm.dH [(Itm.cN e.n),(Itm.cN e.v)]),[(I6 4),(U6 0),(St []),(Sl g3 0 2 2),(.bool false)])] hR7 ⟨k13,k12,trivial⟩ (show 2 ≤ R47 by decide)
  refine zq 1 (aY 1 b1 (zn (aA (dU [2] [(b1,5)] [(.agg #[(I6 4),(U6 0),(St []),(Sl g7 0 2 2),(.bool false)])] (fun W' hM => ?_)))))
  have hsn : e.s.toNat = 2 := by
   simp only [beq_iff_eq,beq_eq_false_iff_ne] at h0
   omega
  exact cF hM (View.le_trans hV3 hV7) ⟨[(I6 4),(U6 0),(St []),(Sl g7 0 2 2),(.bool false)],rfl,((TV.list 2 hT7)).cast (by simp only [Ei.tree,hsn,h0,bs,bQ,reduceIte])⟩
 ·
  have h0d := beq_eq_false_iff_ne.1 h0
  refine zB [0,1] [(b0,1)] (cH (.bool (!(e.l == [110,111,110,101]))) (mN _ _ _ _ rfl e.l [110,111,110,101] kR kR) ?_)
  refine zn (cD (!(e.l == [110,111,110,101])) (fun h1 => ?_) (fun h1 => ?_))
  ·
   refine zr (cU [0,1,0] [(b0,1)] (aY 2 b2 (zn (zB [0,1,0] [(b0,1)] (eE 24 (U6 (IntKind.u64.wrap e.s)) (N6 e.s.toNat) (congrArg (Value.int .u64) hw) ?_)))))
   refine cU [0,3] [(b2,5)] ?_
   refine gO [(I6 0),(N6 e.s.toNat),(St []),S0,(.bool false),(I6 3),(U6 0),(St e.l),S0,(.bool false)] 89 (fun r => (Sl r 0 2 2)) kR kR kR (fun g14 V14 hV14 hR14 => ?_)
   have k16 := (TV.txt _ e.l (by first | assumption | decide | (unfold R47; omega))).le hV14
   have k17 := (TV.num _ e.s.toNat (by first | assumption | decide | (unfold W64; omega))).le hV14
   have hT14 : fG V14 (some ⟨g14,0,none⟩) [(Itm.cN e.s.toNat),(aHL e.l)] := fG.lit [((Itm.cN e.s.toNat),(iN e.s.toNat)),((aHL e.l),[(I6 3),(U6 0),(St e.l),S0,(.bool false)])] hR14 ⟨k17,k16,trivial⟩ (show 2 ≤ R47 by decide)
   refine zq 1 (aY 1 b1 (zn (aA (dU [2] [(b1,5)] [(.agg #[(I6 4),(U6 0),(St []),(Sl g14 0 2 2),(.bool false)])] (fun W' hM => ?_)))))
   have hsn : e.s.toNat = 1 := by
    simp only [beq_iff_eq,beq_eq_false_iff_ne] at h0
    omega
   exact cF hM hV14 ⟨[(I6 4),(U6 0),(St []),(Sl g14 0 2 2),(.bool false)],rfl,((TV.list 2 hT14)).cast (by simp only [Ei.tree,hsn,h0,show (e.l == [110,111,110,101]) = false from by simpa using h1,bs,bQ,reduceIte])⟩
  ·
   refine zk (zB [0,1,0] [(b0,1)] (eE 24 (U6 (IntKind.u64.wrap e.s)) (N6 e.s.toNat) (congrArg (Value.int .u64) hw) ?_))
   refine cU [0,3] [(b2,5)] ?_
   refine gO [(I6 0),(N6 e.s.toNat),(St []),S0,(.bool false),(I6 0),(U6 0),(St []),S0,(.bool false)] 89 (fun r => (Sl r 0 2 2)) kR kR kR (fun g18 V18 hV18 hR18 => ?_)
   have k19 := (TV.num _ 0 (by first | assumption | decide | (unfold W64; omega))).le hV18
   have k20 := (TV.num _ e.s.toNat (by first | assumption | decide | (unfold W64; omega))).le hV18
   have hT18 : fG V18 (some ⟨g18,0,none⟩) [(Itm.cN e.s.toNat),(Itm.cN 0)] := fG.lit [((Itm.cN e.s.toNat),(iN e.s.toNat)),((Itm.cN 0),[(I6 0),(U6 0),(St []),S0,(.bool false)])] hR18 ⟨k20,k19,trivial⟩ (show 2 ≤ R47 by decide)
   refine zq 1 (aY 1 b1 (zn (aA (dU [2] [(b1,5)] [(.agg #[(I6 4),(U6 0),(St []),(Sl g18 0 2 2),(.bool false)])] (fun W' hM => ?_)))))
   have hsn : e.s.toNat = 1 := by
    simp only [beq_iff_eq,beq_eq_false_iff_ne] at h0
    omega
   exact cF hM hV18 ⟨[(I6 4),(U6 0),(St []),(Sl g18 0 2 2),(.bool false)],rfl,((TV.list 2 hT18)).cast (by simp only [Ei.tree,hsn,h0,show (e.l == [110,111,110,101]) = true from by simpa using h1,bs,bQ,reduceIte])⟩
def aLv (f : Nat) (k : Int) : Int := if hasB f 1 then (if (k == 1) || (k == 2) then 11 else 10) else if (k == 1) || (k == 2) then 9 else 8
theorem aGX (f : Nat) (k : Int) (hf : f < W64) (w : World) : CP 205 #[.int .u64 (f : Int), .int .u64 k] w (Ret (.int .i64 (aLv f k)) w) := by
 refine dK 19 Tryz.func205 ?_
 refine zQ 1 (zn (zQ 1 (zn (zs (zQ 1 (dL (fun W hM => aII f hf W) (zn (cD (hasB f 1) (fun h0 => ?_) (fun h0 => ?_)))))))))
 ·
  refine zr (zq 3 (zn (zs (zQ 3 (aK 12 (k == 1) (fun h1 => ?_) (fun h1 => ?_))))))
  ·
   refine zq 3 (zn (dF (zr (zq 3 (zn (zQ 2 (zn (aA (aH [4] [(I6 11)] (fun W' hM => ?_))))))))))
   exact ⟨by simp only [cG,aLv,h0,h1,bs,bQ,reduceIte],hM.below⟩
  ·
   refine zq 3 (zn (cD (k == 2) (fun h2 => ?_) (fun h2 => ?_)))
   ·
    refine zr (zq 3 (zn (zQ 2 (zn (aA (aH [4] [(I6 11)] (fun W' hM => ?_)))))))
    exact ⟨by simp only [cG,aLv,h0,h1,h2,bs,bQ,reduceIte],hM.below⟩
   ·
    refine zk (zQ 2 (zn (aA (aH [4] [(I6 10)] (fun W' hM => ?_)))))
    exact ⟨by simp only [cG,aLv,h0,h1,h2,bs,bQ,reduceIte],hM.below⟩
 ·
  refine zk (zs (zQ 3 (aK 12 (k == 1) (fun h3 => ?_) (fun h3 => ?_))))
  ·
   refine zq 3 (zn (dF (zr (zq 3 (zn (zQ 2 (zn (aA (aH [4] [(I6 9)] (fun W' hM => ?_))))))))))
   exact ⟨by simp only [cG,aLv,h0,h3,bs,bQ,reduceIte],hM.below⟩
  ·
   refine zq 3 (zn (cD (k == 2) (fun h4 => ?_) (fun h4 => ?_)))
   ·
    refine zr (zq 3 (zn (zQ 2 (zn (aA (aH [4] [(I6 9)] (fun W' hM => ?_)))))))
    exact ⟨by simp only [cG,aLv,h0,h3,h4,bs,bQ,reduceIte],hM.below⟩
   ·
    refine zk (zQ 2 (zn (aA (aH [4] [(I6 8)] (fun W' hM => ?_)))))
    exact ⟨by simp only [cG,aLv,h0,h3,h4,bs,bQ,reduceIte],hM.below⟩
theorem aIE (b : List UInt8) (w : World) : CP 159 #[.int .i64 0, .string (B b)] w (Ret (.string (B [])) w) := by
 refine dK 39 Tryz.func159 ?_
 refine zQ 1 (zn (zs (zQ 2 (zn (dE (zk (zs (zQ 2 (zn (dE (zk (zQ 1 (zn (aA (jJ 4)))))))))))))))
def cn0 (f : Nat) : Nat := if hasB f 1 then 10 else 8
theorem aNA (f : Nat) : cn0 f ≤ 10 := by unfold cn0; split <;> omega
theorem aE9 (f : Nat) (hf : f < W64) (w : World) : CP 205 #[.int .u64 (f : Int), .int .u64 0] w (Ret (.int .i64 ((cn0 f : Nat) : Int)) w) := by
 have h := aGX f 0 hf w
 rwa [show aLv f 0 = ((cn0 f : Nat) : Int) by unfold aLv cn0; cases hasB f 1 <;> rfl] at h
def rpB (p : Pr) : List UInt8 := ((((Itm.aD 4 (cn0 p.f) ++ Itm.aD 0 7) ++ Itm.aD 0 p.f) ++ Itm.aD 0 0) ++ ((Itm.aE p.dst.tree ++ Itm.aE p.src.tree) ++ Itm.aE p.rpt.tree)) ++ (((Itm.aD 4 2 ++ Itm.aD 0 p.time) ++ Itm.aD 0 p.seq) ++ Itm.aD 0 p.life) ++ (if hasB p.f 1 then Itm.aD 0 p.off ++ Itm.aD 0 p.tot else [])
theorem aA3 (p : Pr) (w : World) (hp : p.ok) (hd : aX p.dst = true) (hs : aX p.src = true) (ht : aX p.rpt = true) : CP 160 #[p.V, .int .u64 0, .string (B [])] w (Ret (.string (B (rpB p))) w) := by
 have hf := hp.f
 have i1 := hp.time
 have i2 := hp.seq
 have i3 := hp.life
 have i4 := hp.off
 have i5 := hp.tot
 have hc := aNA p.f
 have l0 := Itm.aW 4 (cn0 p.f)
 have l1 := Itm.aW 0 7
 have l2 := Itm.aW 0 p.f
 have l3 := Itm.aW 0 0
 have l4 := Itm.aW 4 2
 have l5 := Itm.aW 0 p.time
 have l6 := Itm.aW 0 p.seq
 have l7 := Itm.aW 0 p.life
 have l8 := Itm.aW 0 p.off
 have l9 := Itm.aW 0 p.tot
 have t1 := Itm.eM p.dst.tree
 have t2 := Itm.eM p.src.tree
 have t3 := Itm.eM p.rpt.tree
 have s1 := tP hd
 have s2 := tP hs
 have s3 := tP ht
 refine dK 77 Tryz.func160 ?_
 refine zs (zr (cJ (fun b0 => (zq 1 (zn (zs ?_))))))
 refine gU 5 [0,3,0,1,1,1,1,1,0,3,1,1,0,1] [(b0,1),(b0,1)] [.val (L6 (cn0 p.f)),.val (N6 (cn0 p.f : Nat)),.val (St (Itm.aD 4 (cn0 p.f))),.val (St (Itm.aD 0 7)),.val (St ((Itm.aD 4 (cn0 p.f)) ++ (Itm.aD 0 7))),.val (St (Itm.aD 0 p.f)),.val (St (((Itm.aD 4 (cn0 p.f)) ++ (Itm.aD 0 7)) ++ (Itm.aD 0 p.f))),.val (St (Itm.aD 0 0))] ⟨?_,?_,?_,?_,?_,?_,?_,?_,trivial⟩ ?_
 · exact vC 205 #[(N6 p.f),(U6 0)] (fun W hM => aE9 p.f hf W)
 · exact vE (U6 (IntKind.u64.wrap ((cn0 p.f : Nat) : Int))) (congrArg (Value.int .u64) (u64_in oW oW))
 · exact vC 108 #[(I6 4),(N6 (cn0 p.f : Nat))] (fun W hM => dO 4 (cn0 p.f) W oW (by first | assumption | (unfold W64; omega) | decide))
 · exact vC 108 #[(I6 0),(U6 7)] (fun W hM => dO 0 7 W oW (by first | assumption | (unfold W64; omega) | decide))
 · exact vR (cE _ _ _ _ rfl (Itm.aD 4 (cn0 p.f)) (Itm.aD 0 7) kR kR oA)
 · exact vC 108 #[(I6 0),(N6 p.f)] (fun W hM => dO 0 p.f W oW (by first | assumption | (unfold W64; omega) | decide))
 · exact vR (cE _ _ _ _ rfl ((Itm.aD 4 (cn0 p.f)) ++ (Itm.aD 0 7)) (Itm.aD 0 p.f) kR kR oA)
 · exact vC 108 #[(I6 0),(U6 0)] (fun W hM => dO 0 0 W oW (by first | assumption | (unfold W64; omega) | decide))
 refine cH (St ((((Itm.aD 4 (cn0 p.f)) ++ (Itm.aD 0 7)) ++ (Itm.aD 0 p.f)) ++ (Itm.aD 0 0))) (cE _ _ _ _ rfl (((Itm.aD 4 (cn0 p.f)) ++ (Itm.aD 0 7)) ++ (Itm.aD 0 p.f)) (Itm.aD 0 0) kR kR oA) ?_
 refine zq 1 (zn (zs ?_))
 refine aBM 5 [0,0,3,1,1,0,3,1,1,1,0,3,1,1,1] [(b0,4),(b0,4),(b0,4)] [.mem (aLC p.dst.tree),.val (St (Itm.aE p.dst.tree)),.mem (aLC p.src.tree),.val (St (Itm.aE p.src.tree)),.val (St ((Itm.aE p.dst.tree) ++ (Itm.aE p.src.tree))),.mem (aLC p.rpt.tree),.val (St (Itm.aE p.rpt.tree)),.val (St (((Itm.aE p.dst.tree) ++ (Itm.aE p.src.tree)) ++ (Itm.aE p.rpt.tree)))] (by simp only [List.forall_mem_cons]; exact ⟨by intro v V V2 hV2 hP; (first | trivial | exact PhiMono.go hP hV2 | (obtain ⟨g,e,hP⟩ := hP; exact ⟨g,e,hP.le hV2⟩)),trivial,by intro v V V2 hV2 hP; (first | trivial | exact PhiMono.go hP hV2 | (obtain ⟨g,e,hP⟩ := hP; exact ⟨g,e,hP.le hV2⟩)),trivial,trivial,by intro v V V2 hV2 hP; (first | trivial | exact PhiMono.go hP hV2 | (obtain ⟨g,e,hP⟩ := hP; exact ⟨g,e,hP.le hV2⟩)),trivial,trivial,fun _ h => by cases h⟩) ⟨?_,?_,?_,?_,?_,?_,?_,?_,trivial⟩ ?_
 ·
  refine wM 110 (fun u => #[(.agg #[(I6 p.dst.s),(St p.dst.l),(N6 p.dst.n),(N6 p.dst.v)])]) fun u V hV hdq W hW => ?_
  exact aA8 p.dst W hW hp.dst hd
 ·
  refine wV 109 (fun u => #[u 3]) fun u V hV hdq W hW => ?_
  have e3 := hdq 3 kR rfl
  obtain ⟨cs3,q3,ht3⟩ := e3
  obtain ⟨a3,c3,rfl,hts3,hn3,hs3,hl3⟩ := ht3.form
  rw [q3]
  exact oI 8 _ _ hW ht3 (lD _ 5) (by unfold aAT; omega)
 ·
  refine wM 110 (fun u => #[(.agg #[(I6 p.src.s),(St p.src.l),(N6 p.src.n),(N6 p.src.v)])]) fun u V hV hdq W hW => ?_
  exact aA8 p.src W hW hp.src hs
 ·
  refine wV 109 (fun u => #[u 7]) fun u V hV hdq W hW => ?_
  have e7 := hdq 7 kR rfl
  obtain ⟨cs7,q7,ht7⟩ := e7
  obtain ⟨a7,c7,rfl,hts7,hn7,hs7,hl7⟩ := ht7.form
  rw [q7]
  exact oI 8 _ _ hW ht7 (lD _ 5) (by unfold aAT; omega)
 · exact wR (fun u => cE _ _ _ _ rfl (Itm.aE p.dst.tree) (Itm.aE p.src.tree) kR kR oA)
 ·
  refine wM 110 (fun u => #[(.agg #[(I6 p.rpt.s),(St p.rpt.l),(N6 p.rpt.n),(N6 p.rpt.v)])]) fun u V hV hdq W hW => ?_
  exact aA8 p.rpt W hW hp.rpt ht
 ·
  refine wV 109 (fun u => #[u 12]) fun u V hV hdq W hW => ?_
  have e12 := hdq 12 kR rfl
  obtain ⟨cs12,q12,ht12⟩ := e12
  obtain ⟨a12,c12,rfl,hts12,hn12,hs12,hl12⟩ := ht12.form
  rw [q12]
  exact oI 8 _ _ hW ht12 (lD _ 5) (by unfold aAT; omega)
 · exact wR (fun u => cE _ _ _ _ rfl ((Itm.aE p.dst.tree) ++ (Itm.aE p.src.tree)) (Itm.aE p.rpt.tree) kR kR oA)
 intro u1 V1 hV1 hdq1
 refine cH (St (((((Itm.aD 4 (cn0 p.f)) ++ (Itm.aD 0 7)) ++ (Itm.aD 0 p.f)) ++ (Itm.aD 0 0)) ++ (((Itm.aE p.dst.tree) ++ (Itm.aE p.src.tree)) ++ (Itm.aE p.rpt.tree)))) (cE _ _ _ _ rfl ((((Itm.aD 4 (cn0 p.f)) ++ (Itm.aD 0 7)) ++ (Itm.aD 0 p.f)) ++ (Itm.aD 0 0)) (((Itm.aE p.dst.tree) ++ (Itm.aE p.src.tree)) ++ (Itm.aE p.rpt.tree)) kR kR oA) ?_
 refine zq 1 (zn (zs ?_))
 refine gU 5 [0,1,0,3,1,1,0,3,1,1,0,3,1,1] [(b0,1),(b0,1),(b0,1)] [.val (St (Itm.aD 4 2)),.val (St (Itm.aD 0 p.time)),.val (St ((Itm.aD 4 2) ++ (Itm.aD 0 p.time))),.val (St (Itm.aD 0 p.seq)),.val (St (((Itm.aD 4 2) ++ (Itm.aD 0 p.time)) ++ (Itm.aD 0 p.seq))),.val (St (Itm.aD 0 p.life)),.val (St ((((Itm.aD 4 2) ++ (Itm.aD 0 p.time)) ++ (Itm.aD 0 p.seq)) ++ (Itm.aD 0 p.life)))] ⟨?_,?_,?_,?_,?_,?_,?_,trivial⟩ ?_
 · exact vC 108 #[(I6 4),(U6 2)] (fun W hM => dO 4 2 W oW (by first | assumption | (unfold W64; omega) | decide))
 · exact vC 108 #[(I6 0),(N6 p.time)] (fun W hM => dO 0 p.time W oW (by first | assumption | (unfold W64; omega) | decide))
 · exact vR (cE _ _ _ _ rfl (Itm.aD 4 2) (Itm.aD 0 p.time) kR kR oA)
 · exact vC 108 #[(I6 0),(N6 p.seq)] (fun W hM => dO 0 p.seq W oW (by first | assumption | (unfold W64; omega) | decide))
 · exact vR (cE _ _ _ _ rfl ((Itm.aD 4 2) ++ (Itm.aD 0 p.time)) (Itm.aD 0 p.seq) kR kR oA)
 · exact vC 108 #[(I6 0),(N6 p.life)] (fun W hM => dO 0 p.life W oW (by first | assumption | (unfold W64; omega) | decide))
 · exact vR (cE _ _ _ _ rfl (((Itm.aD 4 2) ++ (Itm.aD 0 p.time)) ++ (Itm.aD 0 p.seq)) (Itm.aD 0 p.life) kR kR oA)
 refine cH (St ((((((Itm.aD 4 (cn0 p.f)) ++ (Itm.aD 0 7)) ++ (Itm.aD 0 p.f)) ++ (Itm.aD 0 0)) ++ (((Itm.aE p.dst.tree) ++ (Itm.aE p.src.tree)) ++ (Itm.aE p.rpt.tree))) ++ ((((Itm.aD 4 2) ++ (Itm.aD 0 p.time)) ++ (Itm.aD 0 p.seq)) ++ (Itm.aD 0 p.life)))) (cE _ _ _ _ rfl (((((Itm.aD 4 (cn0 p.f)) ++ (Itm.aD 0 7)) ++ (Itm.aD 0 p.f)) ++ (Itm.aD 0 0)) ++ (((Itm.aE p.dst.tree) ++ (Itm.aE p.src.tree)) ++ (Itm.aE p.rpt.tree))) ((((Itm.aD 4 2) ++ (Itm.aD 0 p.time)) ++ (Itm.aD 0 p.seq)) ++ (Itm.aD 0 p.life)) kR kR oA) ?_
 refine zq 1 (zn (zs (zB [0,1] [(b0,1)] (dL (fun W hM => aII p.f hf W) (zn (cD (hasB p.f 1) (fun h0 => ?_) (fun h0 => ?_)))))))
 ·
  refine gU 3 [0,0,3,1,0,3,1,1] [(b0,1),(b0,1)] [.val (St (Itm.aD 0 p.off)),.val (St (Itm.aD 0 p.tot)),.val (St ((Itm.aD 0 p.off) ++ (Itm.aD 0 p.tot)))] ⟨?_,?_,?_,trivial⟩ ?_
  · exact vC 108 #[(I6 0),(N6 p.off)] (fun W hM => dO 0 p.off W oW (by first | assumption | (unfold W64; omega) | decide))
  · exact vC 108 #[(I6 0),(N6 p.tot)] (fun W hM => dO 0 p.tot W oW (by first | assumption | (unfold W64; omega) | decide))
  · exact vR (cE _ _ _ _ rfl (Itm.aD 0 p.off) (Itm.aD 0 p.tot) kR kR oA)
  refine cH (St (((((((Itm.aD 4 (cn0 p.f)) ++ (Itm.aD 0 7)) ++ (Itm.aD 0 p.f)) ++ (Itm.aD 0 0)) ++ (((Itm.aE p.dst.tree) ++ (Itm.aE p.src.tree)) ++ (Itm.aE p.rpt.tree))) ++ ((((Itm.aD 4 2) ++ (Itm.aD 0 p.time)) ++ (Itm.aD 0 p.seq)) ++ (Itm.aD 0 p.life))) ++ ((Itm.aD 0 p.off) ++ (Itm.aD 0 p.tot)))) (cE _ _ _ _ rfl ((((((Itm.aD 4 (cn0 p.f)) ++ (Itm.aD 0 7)) ++ (Itm.aD 0 p.f)) ++ (Itm.aD 0 0)) ++ (((Itm.aE p.dst.tree) ++ (Itm.aE p.src.tree)) ++ (Itm.aE p.rpt.tree))) ++ ((((Itm.aD 4 2) ++ (Itm.aD 0 p.time)) ++ (Itm.aD 0 p.seq)) ++ (Itm.aD 0 p.life))) ((Itm.aD 0 p.off) ++ (Itm.aD 0 p.tot)) kR kR oA) ?_
  refine zq 1 (zn (zs (zQ 6 (zn (dE (zk (zQ 2 (zn (aA (aH [6] [(St (((((((Itm.aD 4 (cn0 p.f)) ++ (Itm.aD 0 7)) ++ (Itm.aD 0 p.f)) ++ (Itm.aD 0 0)) ++ (((Itm.aE p.dst.tree) ++ (Itm.aE p.src.tree)) ++ (Itm.aE p.rpt.tree))) ++ ((((Itm.aD 4 2) ++ (Itm.aD 0 p.time)) ++ (Itm.aD 0 p.seq)) ++ (Itm.aD 0 p.life))) ++ ((Itm.aD 0 p.off) ++ (Itm.aD 0 p.tot))))] (fun W' hM => ?_)))))))))))
  exact ⟨by simp only [cG,rpB,List.append_nil,h0,bs,bQ,reduceIte],hM.below⟩
 ·
  refine zk (zs (zQ 6 (zn (dE (zk (zQ 2 (zn (aA (aH [6] [(St ((((((Itm.aD 4 (cn0 p.f)) ++ (Itm.aD 0 7)) ++ (Itm.aD 0 p.f)) ++ (Itm.aD 0 0)) ++ (((Itm.aE p.dst.tree) ++ (Itm.aE p.src.tree)) ++ (Itm.aE p.rpt.tree))) ++ ((((Itm.aD 4 2) ++ (Itm.aD 0 p.time)) ++ (Itm.aD 0 p.seq)) ++ (Itm.aD 0 p.life))))] (fun W' hM => ?_))))))))))
  exact ⟨by simp only [cG,rpB,List.append_nil,h0,bs,bQ,reduceIte],hM.below⟩
theorem aDF (p : Pr) (w : World) (hp : p.ok) (hd : aX p.dst = true) (hs : aX p.src = true) (ht : aX p.rpt = true) : CP 117 #[.agg #[(.int .u64 (p.f : Int)), (.int .i64 0), (.int .i64 p.dst.s), (.string (B p.dst.l)), (.int .u64 (p.dst.n : Int)), (.int .u64 (p.dst.v : Int)), (.int .i64 p.src.s), (.string (B p.src.l)), (.int .u64 (p.src.n : Int)), (.int .u64 (p.src.v : Int)), (.int .i64 p.rpt.s), (.string (B p.rpt.l)), (.int .u64 (p.rpt.n : Int)), (.int .u64 (p.rpt.v : Int)), (.int .u64 (p.time : Int)), (.int .u64 (p.seq : Int)), (.int .u64 (p.life : Int)), (.int .u64 (p.off : Int)), (.int .u64 (p.tot : Int))]] w (Ret (.string (B (rpB p))) w) := by
 refine dK 23 Tryz.func117 ?_
 refine zs (zr (cJ (fun b0 => (zq 1 (zn (zs ?_))))))
 refine gU 5 [0,3,3,0,3,0,0,3,0,1,1,1] [(b0,1),(b0,19),(b0,1),(b0,1)] [.blk (fun r => (Sl r 0 0 0)) (oK [] 5),.val (St []),.val (St (rpB p))] ⟨?_,?_,?_,trivial⟩ ?_
 · exact vN
 · exact vB 9 0 13 (fun r => (Sl r 0 0 0)) [] 5
 · exact vC 160 #[(.agg #[(N6 p.f),(I6 0),(I6 p.dst.s),(St p.dst.l),(N6 p.dst.n),(N6 p.dst.v),(I6 p.src.s),(St p.src.l),(N6 p.src.n),(N6 p.src.v),(I6 p.rpt.s),(St p.rpt.l),(N6 p.rpt.n),(N6 p.rpt.v),(N6 p.time),(N6 p.seq),(N6 p.life),(N6 p.off),(N6 p.tot)]),(U6 0),(St [])] (fun W hM => aA3 p.bare W ⟨hp.f,hp.dst,hp.src,hp.rpt,hp.time,hp.seq,hp.life,hp.off,hp.tot⟩ hd hs ht)
 refine dA 159 #[(I6 0),(St (rpB p))] (St []) (fun W hM => aIE _ W) ?_
 refine zq 1 (zn (zB [1,0,1,0,0] [(b0,19),(b0,1)] (dL (fun W hM => aA3 p.bare W ⟨hp.f,hp.dst,hp.src,hp.rpt,hp.time,hp.seq,hp.life,hp.off,hp.tot⟩ hd hs ht) (zq 1 (zn (aA (jJ 2)))))))
theorem aGU (p : Pr) (w : World) (hp : p.ok) (hd : aX p.dst = true) (hs : aX p.src = true) (ht : aX p.rpt = true) : CP 93 #[p.V] w (Ret (.string (B (rpB p))) w) := by
 refine dK 6 Tryz.func93 ?_
 refine zs (zr (cJ (fun b0 => (zq 1 (zn (zQ 1 (aY 0 b0 (zn (zB [1] [(b0,19)] (dL (fun W hM => aDF p W hp hd hs ht) (zq 1 (zn (aA (jJ 2))))))))))))))
theorem aCD (l : List Itm.Tr) : Itm.aE (Itm.dH l) = Itm.aD 4 l.length ++ Itm.dG l := by
 rw [Itm.dH, Itm.aE]
 simp
theorem aHu (n : Nat) : Itm.aE (Itm.cN n) = Itm.aD 0 n := by
 rw [Itm.cN, Itm.aE]
 simp
theorem aNb (p : Pr) (h : p.ok) : rpB p = dB p.bare := by
 have e1 : p.bare.tree = Itm.dH (gQ p.bare []) := rfl
 have e2 : aBt p.bare.f = hasB p.f 1 := aOj p.f h.f
 unfold dB
 rw [e1, aCD]
 unfold gQ rpB cn0
 rw [e2]
 cases hasB p.f 1
 all_goals simp only [if_true, if_false, Bool.false_eq_true, List.append_nil, List.cons_append, List.nil_append, List.length_cons, List.length_nil, Itm.dG, aHu, aCD, List.append_assoc, Pr.bare, show ((0 : Int) != 0) = false from rfl, Int.toNat_zero]
theorem cX.to0 {U : View} {a : Option Addr} {l : List Bk} (h : cX U a l) : lQ U a l := ⟨h.at_, fun x hx => (h.ok x hx).f, by have := h.len; unfold R47 at this; unfold maxLen; omega⟩
theorem aIo {scope : Int} (h0 : 0 ≤ scope) (h7 : scope ≤ 7) : scope = 0 ∨ scope = 1 ∨ scope = 2 ∨ scope = 3 ∨ scope = 4 ∨ scope = 5 ∨ scope = 6 ∨ scope = 7 := by omega
theorem aOg {scope : Int} (h0 : 0 ≤ scope) (h7 : scope ≤ 7) : IntKind.i64.wrap ((scope).tdiv 2) = scope / 2 := by rcases aIo h0 h7 with rfl | rfl | rfl | rfl | rfl | rfl | rfl | rfl <;> decide
theorem aNW {scope : Int} (h0 : 0 ≤ scope) (h7 : scope ≤ 7) : IntKind.i64.wrap ((scope).tdiv 4) = scope / 4 := by rcases aIo h0 h7 with rfl | rfl | rfl | rfl | rfl | rfl | rfl | rfl <;> decide
theorem pZ (A H S : List UInt8) {target scope : Int} (ht : (target != 0) = true) (h0 : 0 ≤ scope) (h7 : scope ≤ 7) : aCF A H S target scope = (([UInt8.ofNat (IntKind.u8.wrap scope).toNat] ++ (if ((scope).tmod 2) == 1 then A else [])) ++ (if (((scope / 2)).tmod 2) == 1 then H else [])) ++ (if (scope / 4) == 1 then S else []) := by
 unfold aCF
 rw [ht]
 rcases aIo h0 h7 with rfl | rfl | rfl | rfl | rfl | rfl | rfl | rfl <;> rfl
def aAH (p : Pr) (l : List Bk) (target : Int) (sec : Bk) (scope : Int) : List UInt8 := if bsZ p l target sec scope != 0 then [] else Itm.aD 2 (aJ l target).1.d.length ++ (aJ l target).1.d
theorem aE2 (p : Pr) (l : List Bk) (a : Option Addr) (c : Nat) (target : Int) (sec : Bk) (scope : Int) (i : Nat) (w : World) {U : View} (hU : See U w) (hp : p.ok) (hl : cX U a l) (hs : sec.ok)
    (ht : (target != 0) = true) (hi : gH l target = (i : Int)) (hlt : i < l.length) (hs0 : 0 ≤ scope) (hs7 : scope ≤ 7) :
    CP 45 #[bnV p a l.length c, .int .i64 target, sec.V, .int .i64 scope] w (Ret (.tuple #[.string (B (bsB p l target sec scope)), .string (B (aAH p l target sec scope)), .int .i64 (bsZ p l target sec scope)]) w) := by
 have hHs := jG sec
 have hmay : aFm scope = true := by unfold aFm; rw [decide_eq_true oW,decide_eq_true oW]; rfl
 have ht0 : (target == 0) = false := by simpa using ht
 obtain ⟨yy,hyy⟩ : ∃ y,l[i]? = some y := ⟨l[i],List.getElem?_eq_getElem hlt⟩
 have hg0 : aJ l target = (yy,true) := sV (by rw [hi]; omega) (by rw [hi,Int.toNat_natCast]; exact hyy)
 refine eG 97 Tryz.func45 hU ?_
 refine zs (zr (cJ (fun b0 => (cJ (fun b1 => (zq 3 (zn (zs (zQ 3 (eE 19 (.bool (decide (scope < 0))) (.bool false) (congrArg Value.bool (decide_eq_false oW)) ?_))))))))))
 refine zq 3 (zn (eS (decide (scope > 7)) (decide_eq_false oW) ?_))
 refine zk (zB [1,0] [(b0,20)] (dA 9 #[(bnV p a l.length c),(I6 target)] (I6 (i : Int)) (fun W hM => hi ▸ lM p l _ _ target W hM.view (hl).to0) ?_))
 refine zq 1 (zn (zs (zQ 3 (eE 28 (.bool (target != 0)) (.bool true) (congrArg Value.bool ht) ?_))))
 refine zq 3 (zn (eS (decide ((i : Int) < 0)) (decide_eq_false oW) ?_))
 refine zk (zs (zB [0,1] [(b0,19)] (dA 71 #[(p.V)] (I6 (aO p)) (fun W hM => (aB6 p hp) ▸ aA2 p W hp) ?_)))
 refine zq 1 (zn (zQ 2 (zn (cD ((aO p) != 0) (fun h0 => ?_) (fun h0 => ?_)))))
 ·
  refine zQ 4 (zn (aA (aH [8,9,10] [(St []),(St []),(I6 (aO p))] (fun W' hM => ?_))))
  have hz : bsZ p l target sec scope = (aO p) := by simp only [bsZ,rdZ,hmay,ht,ht0,h0,hg0,bs,bQ,reduceIte,bne_self_eq_false]
  have hb : bsB p l target sec scope = [] := by simp only [bsB,hz,h0,bs,bQ,reduceIte,bne_self_eq_false,rdA,rdH,rdS,ht,ht0,hg0,List.append_nil]; try rfl
  have ho : aAH p l target sec scope = [] := by simp only [aAH,hz,h0,bs,bQ,reduceIte,bne_self_eq_false,hg0]; try rfl
  exact ⟨by rw [hz,hb,ho]; rfl,hM.below⟩
 ·
  have h0d := bne_eq_false_iff_eq.1 h0
  refine zk (zs (zQ 2 (zn (gP (target != 0) ht ?_))))
  refine zB [0,1,0] [(b0,1)] ?_
  obtain ⟨y2,hy2⟩ : ∃ y,(l)[i]? = some y := ⟨(l)[i]'oW,List.getElem?_eq_getElem _⟩
  obtain ⟨b2,f2,rfl,hU2⟩ := hl.at_ i y2 hy2
  have hHy2 := jG y2
  have hqy2 : y2 = yy := by rw [hy2] at hyy; exact Option.some.inj hyy
  try rw [← hqy2] at hg0
  refine cH (Pt b2 (f2 + i * 5)) (rIx 38 rfl b2 f2 l.length c i 5) ?_
  refine zU b2 (f2 + i * 5) y2.cs hU2 38 (.tmp 43) _ Tryz.underlying38 rfl ?_
  refine dA 72 #[(y2.V)] (I6 (aG y2)) (fun W hM => (tX y2) ▸ rA y2 W) ?_
  refine zq 1 (zn (zQ 2 (zn (cD ((aG y2) != 0) (fun h1 => ?_) (fun h1 => ?_)))))
  ·
   have h1d := bne_iff_ne.1 h1
   refine zQ 4 (zn (aA (aH [8,9,10] [(St []),(St []),(I6 (aG y2))] (fun W' hM => ?_))))
   have hz0 : (aO p) = 0 := by simpa using h0
   have hz : bsZ p l target sec scope = (aG y2) := by simp only [bsZ,rdZ,hmay,ht,ht0,h0,h1,hg0,hz0,bs,bQ,reduceIte,bne_self_eq_false]
   have hb : bsB p l target sec scope = [] := by simp only [bsB,hz,h0,h1,hz0,bs,bQ,reduceIte,bne_self_eq_false,rdA,rdH,rdS,ht,ht0,hg0,List.append_nil]; try rfl
   have ho : aAH p l target sec scope = [] := by simp only [aAH,hz,h0,h1,bs,bQ,reduceIte,bne_self_eq_false,hg0]; try rfl
   exact ⟨by rw [hz,hb,ho]; rfl,hM.below⟩
  ·
   have h1d := bne_eq_false_iff_eq.1 h1
   refine zk (zs (zB [2] [(b1,5)] (dA 72 #[(sec.V)] (I6 (aG sec)) (fun W hM => (tX sec) ▸ rA sec W) ?_)))
   refine zq 1 (zn (zQ 2 (zn (cD ((aG sec) != 0) (fun h2 => ?_) (fun h2 => ?_)))))
   ·
    have h2d := bne_iff_ne.1 h2
    refine zQ 4 (zn (aA (aH [8,9,10] [(St []),(St []),(I6 (aG sec))] (fun W' hM => ?_))))
    have hz0 : (aO p) = 0 := by simpa using h0
    have hz1 : (aG y2) = 0 := by simpa using h1
    have hz : bsZ p l target sec scope = (aG sec) := by simp only [bsZ,rdZ,hmay,ht,ht0,h0,h1,h2,hg0,hz0,hz1,bs,bQ,reduceIte,bne_self_eq_false]
    have hb : bsB p l target sec scope = [] := by simp only [bsB,hz,h0,h1,h2,hz0,hz1,bs,bQ,reduceIte,bne_self_eq_false,rdA,rdH,rdS,ht,ht0,hg0,List.append_nil]; try rfl
    have ho : aAH p l target sec scope = [] := by simp only [aAH,hz,h0,h1,h2,bs,bQ,reduceIte,bne_self_eq_false,hg0]; try rfl
    exact ⟨by rw [hz,hb,ho]; rfl,hM.below⟩
   ·
    have h2d := bne_eq_false_iff_eq.1 h2
    refine zk (zQ 2 (cJ (fun b3 => (cU [3,0] [(b3,1)] (zn (zB [0,1] [(b0,19)] ?_))))))
    have hA := rD (aAg (p := p) (by simpa using h0))
    refine dA 93 #[(p.V)] (St (dB p.bare)) (fun W hM => (aNb p hp) ▸ (aGU p W hp (fS (fH (by simpa using h0))).1 (fS (fH (by simpa using h0))).2.1 (fS (fH (by simpa using h0))).2.2.1)) ?_
    refine zq 1 (zn (zs (zQ 2 (zn (gP (target != 0) ht ?_)))))
    refine zs (zQ 3 (zn (cD (((scope).tmod 2) == 1) (fun h3 => ?_) (fun h3 => ?_))))
    ·
     have h3d := eq_of_beq h3
     refine zr (zq 2 (cH (St ([UInt8.ofNat ((IntKind.u8.wrap scope) : Int).toNat] ++ (dB p.bare))) (cE _ _ _ _ rfl [UInt8.ofNat ((IntKind.u8.wrap scope) : Int).toNat] (dB p.bare) kR kR oA) ?_))
     refine zq 1 (zn (zB [0,1,0] [(b0,1)] ?_))
     obtain ⟨y4,hy4⟩ : ∃ y,(l)[i]? = some y := ⟨(l)[i]'oW,List.getElem?_eq_getElem _⟩
     obtain ⟨b4,f4,e4,hU4⟩ := hl.at_ i y4 hy4
     cases e4
     have hHy4 := jG y4
     have hqy4 : y4 = yy := by rw [hy4] at hyy; exact Option.some.inj hyy
     try rw [← hqy4] at hg0
     refine cH (Pt b2 (f2 + i * 5)) (rIx 38 rfl b2 f2 l.length c i 5) ?_
     refine zq 1 (zV b2 (f2 + i * 5 + 4) (St y2.d) (hU2 4 _ rfl) 9 (.tmp 73) _ Tryz.underlying9 rfl ?_)
     refine dA 94 #[(St y2.d)] (St (Itm.aD 2 y2.d.length ++ y2.d)) (fun W hM => aA9 y2.d (hl.ok _ (List.mem_of_getElem? hy2)).d W) ?_
     refine zq 1 (zn (zQ 2 (eE 77 (I6 (IntKind.i64.wrap ((scope).tdiv 2))) (I6 (scope / 2)) (congrArg (Value.int .i64) (aOg hs0 hs7)) ?_)))
     refine zq 2 (zn (cD ((((scope / 2)).tmod 2) == 1) (fun h4 => ?_) (fun h4 => ?_)))
     ·
      have h4d := eq_of_beq h4
      refine zr (cU [0,0,1,0] [(b0,1)] ?_)
      obtain ⟨y5,hy5⟩ : ∃ y,(l)[i]? = some y := ⟨(l)[i]'oW,List.getElem?_eq_getElem _⟩
      obtain ⟨b5,f5,e5,hU5⟩ := hl.at_ i y5 hy5
      cases e5
      have hHy5 := jG y5
      have hqy5 : y5 = yy := by rw [hy5] at hyy; exact Option.some.inj hyy
      try rw [← hqy5] at hg0
      refine cH (Pt b2 (f2 + i * 5)) (rIx 38 rfl b2 f2 l.length c i 5) ?_
      refine zU b2 (f2 + i * 5) y2.cs hU2 38 (.tmp 84) _ Tryz.underlying38 rfl ?_
      refine dA 95 #[(y2.V)] (St (aD y2)) (fun W hM => iS y2 W (hl.ok _ (List.mem_of_getElem? hy2)) (by simpa using h1)) ?_
      refine cH (St (([UInt8.ofNat ((IntKind.u8.wrap scope) : Int).toNat] ++ (dB p.bare)) ++ (aD y2))) (cE _ _ _ _ rfl ([UInt8.ofNat ((IntKind.u8.wrap scope) : Int).toNat] ++ (dB p.bare)) (aD y2) kR kR oA) ?_
      refine zq 1 (zn (zs (zQ 2 (eE 89 (I6 (IntKind.i64.wrap ((scope).tdiv 4))) (I6 (scope / 4)) (congrArg (Value.int .i64) (aNW hs0 hs7)) ?_))))
      refine zq 1 (zn (cD ((scope / 4) == 1) (fun h5 => ?_) (fun h5 => ?_)))
      ·
       have h5d := eq_of_beq h5
       refine zr (cU [0,2] [(b1,5)] (dL (fun W hM => iS sec W hs (by simpa using h2)) (cH (St ((([UInt8.ofNat ((IntKind.u8.wrap scope) : Int).toNat] ++ (dB p.bare)) ++ (aD y2)) ++ (aD sec))) (cE _ _ _ _ rfl (([UInt8.ofNat ((IntKind.u8.wrap scope) : Int).toNat] ++ (dB p.bare)) ++ (aD y2)) (aD sec) kR kR oA) ?_)))
       refine zq 1 (zn (zQ 5 (zn (aA (aH [8,9,10] [(St ((([UInt8.ofNat ((IntKind.u8.wrap scope) : Int).toNat] ++ (dB p.bare)) ++ (aD y2)) ++ (aD sec))),(St (Itm.aD 2 y2.d.length ++ y2.d)),(I6 0)] (fun W' hM => ?_))))))
       have hz0 : (aO p) = 0 := by simpa using h0
       have hz1 : (aG y2) = 0 := by simpa using h1
       have hz2 : (aG sec) = 0 := by simpa using h2
       have hz : bsZ p l target sec scope = 0 := by simp only [bsZ,rdZ,hmay,ht,ht0,h0,h1,h2,h3,h4,h5,hg0,hz0,hz1,hz2,bs,bQ,reduceIte,bne_self_eq_false]
       have hb : bsB p l target sec scope = ((([UInt8.ofNat ((IntKind.u8.wrap scope) : Int).toNat] ++ (dB p.bare)) ++ (aD y2)) ++ (aD sec)) := by simp only [bsB,hz,h0,h1,h2,h3,h4,h5,hz0,hz1,hz2,bs,bQ,reduceIte,bne_self_eq_false,pZ _ _ _ ht hs0 hs7,rdA,rdH,rdS,ht,ht0,hg0,List.append_nil]; try rfl
       have ho : aAH p l target sec scope = (Itm.aD 2 y2.d.length ++ y2.d) := by simp only [aAH,hz,h0,h1,h2,h3,h4,h5,bs,bQ,reduceIte,bne_self_eq_false,hg0]; try rfl
       exact ⟨by rw [hz,hb,ho]; rfl,hM.below⟩
      ·
       have h5d := beq_eq_false_iff_ne.1 h5
       refine zk (zQ 5 (zn (aA (aH [8,9,10] [(St (([UInt8.ofNat ((IntKind.u8.wrap scope) : Int).toNat] ++ (dB p.bare)) ++ (aD y2))),(St (Itm.aD 2 y2.d.length ++ y2.d)),(I6 0)] (fun W' hM => ?_)))))
       have hz0 : (aO p) = 0 := by simpa using h0
       have hz1 : (aG y2) = 0 := by simpa using h1
       have hz2 : (aG sec) = 0 := by simpa using h2
       have hz : bsZ p l target sec scope = 0 := by simp only [bsZ,rdZ,hmay,ht,ht0,h0,h1,h2,h3,h4,h5,hg0,hz0,hz1,hz2,bs,bQ,reduceIte,bne_self_eq_false]
       have hb : bsB p l target sec scope = (([UInt8.ofNat ((IntKind.u8.wrap scope) : Int).toNat] ++ (dB p.bare)) ++ (aD y2)) := by simp only [bsB,hz,h0,h1,h2,h3,h4,h5,hz0,hz1,hz2,bs,bQ,reduceIte,bne_self_eq_false,pZ _ _ _ ht hs0 hs7,rdA,rdH,rdS,ht,ht0,hg0,List.append_nil]; try rfl
       have ho : aAH p l target sec scope = (Itm.aD 2 y2.d.length ++ y2.d) := by simp only [aAH,hz,h0,h1,h2,h3,h4,h5,bs,bQ,reduceIte,bne_self_eq_false,hg0]; try rfl
       exact ⟨by rw [hz,hb,ho]; rfl,hM.below⟩
     ·
      have h4d := beq_eq_false_iff_ne.1 h4
      refine zk (zs (zQ 2 (eE 89 (I6 (IntKind.i64.wrap ((scope).tdiv 4))) (I6 (scope / 4)) (congrArg (Value.int .i64) (aNW hs0 hs7)) ?_)))
      refine zq 1 (zn (cD ((scope / 4) == 1) (fun h6 => ?_) (fun h6 => ?_)))
      ·
       have h6d := eq_of_beq h6
       refine zr (cU [0,2] [(b1,5)] (dL (fun W hM => iS sec W hs (by simpa using h2)) (cH (St (([UInt8.ofNat ((IntKind.u8.wrap scope) : Int).toNat] ++ (dB p.bare)) ++ (aD sec))) (cE _ _ _ _ rfl ([UInt8.ofNat ((IntKind.u8.wrap scope) : Int).toNat] ++ (dB p.bare)) (aD sec) kR kR oA) ?_)))
       refine zq 1 (zn (zQ 5 (zn (aA (aH [8,9,10] [(St (([UInt8.ofNat ((IntKind.u8.wrap scope) : Int).toNat] ++ (dB p.bare)) ++ (aD sec))),(St (Itm.aD 2 y2.d.length ++ y2.d)),(I6 0)] (fun W' hM => ?_))))))
       have hz0 : (aO p) = 0 := by simpa using h0
       have hz1 : (aG y2) = 0 := by simpa using h1
       have hz2 : (aG sec) = 0 := by simpa using h2
       have hz : bsZ p l target sec scope = 0 := by simp only [bsZ,rdZ,hmay,ht,ht0,h0,h1,h2,h3,h4,h6,hg0,hz0,hz1,hz2,bs,bQ,reduceIte,bne_self_eq_false]
       have hb : bsB p l target sec scope = (([UInt8.ofNat ((IntKind.u8.wrap scope) : Int).toNat] ++ (dB p.bare)) ++ (aD sec)) := by simp only [bsB,hz,h0,h1,h2,h3,h4,h6,hz0,hz1,hz2,bs,bQ,reduceIte,bne_self_eq_false,pZ _ _ _ ht hs0 hs7,rdA,rdH,rdS,ht,ht0,hg0,List.append_nil]; try rfl
       have ho : aAH p l target sec scope = (Itm.aD 2 y2.d.length ++ y2.d) := by simp only [aAH,hz,h0,h1,h2,h3,h4,h6,bs,bQ,reduceIte,bne_self_eq_false,hg0]; try rfl
       exact ⟨by rw [hz,hb,ho]; rfl,hM.below⟩
      ·
       have h6d := beq_eq_false_iff_ne.1 h6
       refine zk (zQ 5 (zn (aA (aH [8,9,10] [(St ([UInt8.ofNat ((IntKind.u8.wrap scope) : Int).toNat] ++ (dB p.bare))),(St (Itm.aD 2 y2.d.length ++ y2.d)),(I6 0)] (fun W' hM => ?_)))))
       have hz0 : (aO p) = 0 := by simpa using h0
       have hz1 : (aG y2) = 0 := by simpa using h1
       have hz2 : (aG sec) = 0 := by simpa using h2
       have hz : bsZ p l target sec scope = 0 := by simp only [bsZ,rdZ,hmay,ht,ht0,h0,h1,h2,h3,h4,h6,hg0,hz0,hz1,hz2,bs,bQ,reduceIte,bne_self_eq_false]
       have hb : bsB p l target sec scope = ([UInt8.ofNat ((IntKind.u8.wrap scope) : Int).toNat] ++ (dB p.bare)) := by simp only [bsB,hz,h0,h1,h2,h3,h4,h6,hz0,hz1,hz2,bs,bQ,reduceIte,bne_self_eq_false,pZ _ _ _ ht hs0 hs7,rdA,rdH,rdS,ht,ht0,hg0,List.append_nil]; try rfl
       have ho : aAH p l target sec scope = (Itm.aD 2 y2.d.length ++ y2.d) := by simp only [aAH,hz,h0,h1,h2,h3,h4,h6,bs,bQ,reduceIte,bne_self_eq_false,hg0]; try rfl
       exact ⟨by rw [hz,hb,ho]; rfl,hM.below⟩
    ·
     have h3d := beq_eq_false_iff_ne.1 h3
     refine zk (zB [0,1,0] [(b0,1)] ?_)
     obtain ⟨y6,hy6⟩ : ∃ y,(l)[i]? = some y := ⟨(l)[i]'oW,List.getElem?_eq_getElem _⟩
     obtain ⟨b6,f6,e6,hU6⟩ := hl.at_ i y6 hy6
     cases e6
     have hHy6 := jG y6
     have hqy6 : y6 = yy := by rw [hy6] at hyy; exact Option.some.inj hyy
     try rw [← hqy6] at hg0
     refine cH (Pt b2 (f2 + i * 5)) (rIx 38 rfl b2 f2 l.length c i 5) ?_
     refine zq 1 (zV b2 (f2 + i * 5 + 4) (St y2.d) (hU2 4 _ rfl) 9 (.tmp 73) _ Tryz.underlying9 rfl ?_)
     refine dA 94 #[(St y2.d)] (St (Itm.aD 2 y2.d.length ++ y2.d)) (fun W hM => aA9 y2.d (hl.ok _ (List.mem_of_getElem? hy2)).d W) ?_
     refine zq 1 (zn (zQ 2 (eE 77 (I6 (IntKind.i64.wrap ((scope).tdiv 2))) (I6 (scope / 2)) (congrArg (Value.int .i64) (aOg hs0 hs7)) ?_)))
     refine zq 2 (zn (cD ((((scope / 2)).tmod 2) == 1) (fun h7 => ?_) (fun h7 => ?_)))
     ·
      have h7d := eq_of_beq h7
      refine zr (cU [0,0,1,0] [(b0,1)] ?_)
      obtain ⟨y7,hy7⟩ : ∃ y,(l)[i]? = some y := ⟨(l)[i]'oW,List.getElem?_eq_getElem _⟩
      obtain ⟨b7,f7,e7,hU7⟩ := hl.at_ i y7 hy7
      cases e7
      have hHy7 := jG y7
      have hqy7 : y7 = yy := by rw [hy7] at hyy; exact Option.some.inj hyy
      try rw [← hqy7] at hg0
      refine cH (Pt b2 (f2 + i * 5)) (rIx 38 rfl b2 f2 l.length c i 5) ?_
      refine zU b2 (f2 + i * 5) y2.cs hU2 38 (.tmp 84) _ Tryz.underlying38 rfl ?_
      refine dA 95 #[(y2.V)] (St (aD y2)) (fun W hM => iS y2 W (hl.ok _ (List.mem_of_getElem? hy2)) (by simpa using h1)) ?_
      refine cH (St ([UInt8.ofNat ((IntKind.u8.wrap scope) : Int).toNat] ++ (aD y2))) (cE _ _ _ _ rfl [UInt8.ofNat ((IntKind.u8.wrap scope) : Int).toNat] (aD y2) kR kR oA) ?_
      refine zq 1 (zn (zs (zQ 2 (eE 89 (I6 (IntKind.i64.wrap ((scope).tdiv 4))) (I6 (scope / 4)) (congrArg (Value.int .i64) (aNW hs0 hs7)) ?_))))
      refine zq 1 (zn (cD ((scope / 4) == 1) (fun h8 => ?_) (fun h8 => ?_)))
      ·
       have h8d := eq_of_beq h8
       refine zr (cU [0,2] [(b1,5)] (dL (fun W hM => iS sec W hs (by simpa using h2)) (cH (St (([UInt8.ofNat ((IntKind.u8.wrap scope) : Int).toNat] ++ (aD y2)) ++ (aD sec))) (cE _ _ _ _ rfl ([UInt8.ofNat ((IntKind.u8.wrap scope) : Int).toNat] ++ (aD y2)) (aD sec) kR kR oA) ?_)))
       refine zq 1 (zn (zQ 5 (zn (aA (aH [8,9,10] [(St (([UInt8.ofNat ((IntKind.u8.wrap scope) : Int).toNat] ++ (aD y2)) ++ (aD sec))),(St (Itm.aD 2 y2.d.length ++ y2.d)),(I6 0)] (fun W' hM => ?_))))))
       have hz0 : (aO p) = 0 := by simpa using h0
       have hz1 : (aG y2) = 0 := by simpa using h1
       have hz2 : (aG sec) = 0 := by simpa using h2
       have hz : bsZ p l target sec scope = 0 := by simp only [bsZ,rdZ,hmay,ht,ht0,h0,h1,h2,h3,h7,h8,hg0,hz0,hz1,hz2,bs,bQ,reduceIte,bne_self_eq_false]
       have hb : bsB p l target sec scope = (([UInt8.ofNat ((IntKind.u8.wrap scope) : Int).toNat] ++ (aD y2)) ++ (aD sec)) := by simp only [bsB,hz,h0,h1,h2,h3,h7,h8,hz0,hz1,hz2,bs,bQ,reduceIte,bne_self_eq_false,pZ _ _ _ ht hs0 hs7,rdA,rdH,rdS,ht,ht0,hg0,List.append_nil]; try rfl
       have ho : aAH p l target sec scope = (Itm.aD 2 y2.d.length ++ y2.d) := by simp only [aAH,hz,h0,h1,h2,h3,h7,h8,bs,bQ,reduceIte,bne_self_eq_false,hg0]; try rfl
       exact ⟨by rw [hz,hb,ho]; rfl,hM.below⟩
      ·
       have h8d := beq_eq_false_iff_ne.1 h8
       refine zk (zQ 5 (zn (aA (aH [8,9,10] [(St ([UInt8.ofNat ((IntKind.u8.wrap scope) : Int).toNat] ++ (aD y2))),(St (Itm.aD 2 y2.d.length ++ y2.d)),(I6 0)] (fun W' hM => ?_)))))
       have hz0 : (aO p) = 0 := by simpa using h0
       have hz1 : (aG y2) = 0 := by simpa using h1
       have hz2 : (aG sec) = 0 := by simpa using h2
       have hz : bsZ p l target sec scope = 0 := by simp only [bsZ,rdZ,hmay,ht,ht0,h0,h1,h2,h3,h7,h8,hg0,hz0,hz1,hz2,bs,bQ,reduceIte,bne_self_eq_false]
       have hb : bsB p l target sec scope = ([UInt8.ofNat ((IntKind.u8.wrap scope) : Int).toNat] ++ (aD y2)) := by simp only [bsB,hz,h0,h1,h2,h3,h7,h8,hz0,hz1,hz2,bs,bQ,reduceIte,bne_self_eq_false,pZ _ _ _ ht hs0 hs7,rdA,rdH,rdS,ht,ht0,hg0,List.append_nil]; try rfl
       have ho : aAH p l target sec scope = (Itm.aD 2 y2.d.length ++ y2.d) := by simp only [aAH,hz,h0,h1,h2,h3,h7,h8,bs,bQ,reduceIte,bne_self_eq_false,hg0]; try rfl
       exact ⟨by rw [hz,hb,ho]; rfl,hM.below⟩
     ·
      have h7d := beq_eq_false_iff_ne.1 h7
      refine zk (zs (zQ 2 (eE 89 (I6 (IntKind.i64.wrap ((scope).tdiv 4))) (I6 (scope / 4)) (congrArg (Value.int .i64) (aNW hs0 hs7)) ?_)))
      refine zq 1 (zn (cD ((scope / 4) == 1) (fun h9 => ?_) (fun h9 => ?_)))
      ·
       have h9d := eq_of_beq h9
       refine zr (cU [0,2] [(b1,5)] (dL (fun W hM => iS sec W hs (by simpa using h2)) (cH (St ([UInt8.ofNat ((IntKind.u8.wrap scope) : Int).toNat] ++ (aD sec))) (cE _ _ _ _ rfl [UInt8.ofNat ((IntKind.u8.wrap scope) : Int).toNat] (aD sec) kR kR oA) ?_)))
       refine zq 1 (zn (zQ 5 (zn (aA (aH [8,9,10] [(St ([UInt8.ofNat ((IntKind.u8.wrap scope) : Int).toNat] ++ (aD sec))),(St (Itm.aD 2 y2.d.length ++ y2.d)),(I6 0)] (fun W' hM => ?_))))))
       have hz0 : (aO p) = 0 := by simpa using h0
       have hz1 : (aG y2) = 0 := by simpa using h1
       have hz2 : (aG sec) = 0 := by simpa using h2
       have hz : bsZ p l target sec scope = 0 := by simp only [bsZ,rdZ,hmay,ht,ht0,h0,h1,h2,h3,h7,h9,hg0,hz0,hz1,hz2,bs,bQ,reduceIte,bne_self_eq_false]
       have hb : bsB p l target sec scope = ([UInt8.ofNat ((IntKind.u8.wrap scope) : Int).toNat] ++ (aD sec)) := by simp only [bsB,hz,h0,h1,h2,h3,h7,h9,hz0,hz1,hz2,bs,bQ,reduceIte,bne_self_eq_false,pZ _ _ _ ht hs0 hs7,rdA,rdH,rdS,ht,ht0,hg0,List.append_nil]; try rfl
       have ho : aAH p l target sec scope = (Itm.aD 2 y2.d.length ++ y2.d) := by simp only [aAH,hz,h0,h1,h2,h3,h7,h9,bs,bQ,reduceIte,bne_self_eq_false,hg0]; try rfl
       exact ⟨by rw [hz,hb,ho]; rfl,hM.below⟩
      ·
       have h9d := beq_eq_false_iff_ne.1 h9
       refine zk (zQ 5 (zn (aA (aH [8,9,10] [(St [UInt8.ofNat ((IntKind.u8.wrap scope) : Int).toNat]),(St (Itm.aD 2 y2.d.length ++ y2.d)),(I6 0)] (fun W' hM => ?_)))))
       have hz0 : (aO p) = 0 := by simpa using h0
       have hz1 : (aG y2) = 0 := by simpa using h1
       have hz2 : (aG sec) = 0 := by simpa using h2
       have hz : bsZ p l target sec scope = 0 := by simp only [bsZ,rdZ,hmay,ht,ht0,h0,h1,h2,h3,h7,h9,hg0,hz0,hz1,hz2,bs,bQ,reduceIte,bne_self_eq_false]
       have hb : bsB p l target sec scope = [UInt8.ofNat ((IntKind.u8.wrap scope) : Int).toNat] := by simp only [bsB,hz,h0,h1,h2,h3,h7,h9,hz0,hz1,hz2,bs,bQ,reduceIte,bne_self_eq_false,pZ _ _ _ ht hs0 hs7,rdA,rdH,rdS,ht,ht0,hg0,List.append_nil]; try rfl
       have ho : aAH p l target sec scope = (Itm.aD 2 y2.d.length ++ y2.d) := by simp only [aAH,hz,h0,h1,h2,h3,h7,h9,bs,bQ,reduceIte,bne_self_eq_false,hg0]; try rfl
       exact ⟨by rw [hz,hb,ho]; rfl,hM.below⟩
def rsB (p : Pr) (l : List Bk) (target : Int) (sec : Bk) (scope : Int) : List UInt8 := if rdZ p l target sec != 0 then [] else aCF (rdA p l target) (rdH p l target) (rdS p l target sec) target scope
def roB (p : Pr) (l : List Bk) (target : Int) (sec : Bk) : List UInt8 := if rdZ p l target sec != 0 then [] else rdD p l target
theorem aG9 (A S : List UInt8) {scope : Int} (h0 : 0 ≤ scope) (h7 : scope ≤ 7) : aCF A [] S 0 scope = [UInt8.ofNat (IntKind.u8.wrap scope).toNat] ++ (if (scope / 4) == 1 then S else []) := by
 unfold aCF
 rcases aIo h0 h7 with rfl | rfl | rfl | rfl | rfl | rfl | rfl | rfl <;> simp <;> rfl
theorem aEi (p : Pr) (l : List Bk) (a : Option Addr) (c : Nat) (sec : Bk) (scope : Int) (w : World) {U : View} (hU : See U w) (hp : p.ok) (hl : cX U a l) (hs : sec.ok) (hs0 : 0 ≤ scope) (hs7 : scope ≤ 7) : CP 45 #[bnV p a l.length c, .int .i64 0, sec.V, .int .i64 scope] w (Ret (.tuple #[.string (B (rsB p l 0 sec scope)), .string (B (roB p l 0 sec)), .int .i64 (rdZ p l 0 sec)]) w) := by
 have hHs := jG sec
 refine eG 97 Tryz.func45 hU ?_
 refine zs (zr (cJ (fun b0 => (cJ (fun b1 => (zq 3 (zn (zs (zQ 3 (eE 19 (.bool (decide (scope < 0))) (.bool false) (congrArg Value.bool (decide_eq_false oW)) ?_))))))))))
 refine zq 3 (zn (eS (decide (scope > 7)) (decide_eq_false oW) ?_))
 refine zk (zB [1,0] [(b0,20)] (dA 9 #[(bnV p a l.length c),(I6 0)] (I6 (gH l 0)) (fun W hM => lM p l _ _ 0 W hM.view (hl).to0) ?_))
 refine zq 1 (zn (zs (zQ 6 (zn (dE (zk (zs (zB [0,1] [(b0,19)] (dA 71 #[(p.V)] (I6 (aO p)) (fun W hM => (aB6 p hp) ▸ aA2 p W hp) ?_)))))))))
 refine zq 1 (zn (zQ 2 (zn (cD ((aO p) != 0) (fun h0 => ?_) (fun h0 => ?_)))))
 ·
  refine zQ 4 (zn (aA (aH [8,9,10] [(St []),(St []),(I6 (aO p))] (fun W' hM => ?_))))
  have hz : rdZ p l 0 sec = (aO p) := by simp only [rdZ,bne_self_eq_false,h0,bs,bQ,reduceIte]
  have hb : rsB p l 0 sec scope = [] := by simp only [rsB,hz,h0,rdA,rdH,rdS,beq_self_eq_true,bne_self_eq_false,bs,bQ,reduceIte,List.append_nil]; try rfl
  have ho : roB p l 0 sec = [] := by simp only [roB,hz,h0,rdD,beq_self_eq_true,bne_self_eq_false,bs,bQ,reduceIte]; try rfl
  exact ⟨by rw [hz,hb,ho]; rfl,hM.below⟩
 ·
  have h0d := bne_eq_false_iff_eq.1 h0
  refine zk (zs (zQ 2 (zn (dE (zk (zs (zB [2] [(b1,5)] (dA 72 #[(sec.V)] (I6 (aG sec)) (fun W hM => (tX sec) ▸ rA sec W) ?_))))))))
  refine zq 1 (zn (zQ 2 (zn (cD ((aG sec) != 0) (fun h1 => ?_) (fun h1 => ?_)))))
  ·
   have h1d := bne_iff_ne.1 h1
   refine zQ 4 (zn (aA (aH [8,9,10] [(St []),(St []),(I6 (aG sec))] (fun W' hM => ?_))))
   have hz0 : (aO p) = 0 := by simpa using h0
   have hz : rdZ p l 0 sec = (aG sec) := by simp only [rdZ,bne_self_eq_false,h0,h1,hz0,bs,bQ,reduceIte]
   have hb : rsB p l 0 sec scope = [] := by simp only [rsB,hz,h0,h1,hz0,rdA,rdH,rdS,beq_self_eq_true,bne_self_eq_false,bs,bQ,reduceIte,List.append_nil]; try rfl
   have ho : roB p l 0 sec = [] := by simp only [roB,hz,h0,h1,hz0,rdD,beq_self_eq_true,bne_self_eq_false,bs,bQ,reduceIte]; try rfl
   exact ⟨by rw [hz,hb,ho]; rfl,hM.below⟩
  ·
   have h1d := bne_eq_false_iff_eq.1 h1
   refine zk (zQ 2 (cJ (fun b2 => (cU [3,0] [(b2,1)] (zn (zB [0,1] [(b0,19)] ?_))))))
   have hA := rD (aAg (p := p) (by simpa using h0))
   refine dA 93 #[(p.V)] (St (dB p.bare)) (fun W hM => (aNb p hp) ▸ (aGU p W hp (fS (fH (by simpa using h0))).1 (fS (fH (by simpa using h0))).2.1 (fS (fH (by simpa using h0))).2.2.1)) ?_
   refine zq 1 (zn (zs (zQ 2 (zn (dE (zk (zs (zQ 2 (eE 89 (I6 (IntKind.i64.wrap ((scope).tdiv 4))) (I6 (scope / 4)) (congrArg (Value.int .i64) (aNW hs0 hs7)) ?_)))))))))
   refine zq 1 (zn (cD ((scope / 4) == 1) (fun h2 => ?_) (fun h2 => ?_)))
   ·
    have h2d := eq_of_beq h2
    refine zr (cU [0,2] [(b1,5)] (dL (fun W hM => iS sec W hs (by simpa using h1)) (cH (St ([UInt8.ofNat ((IntKind.u8.wrap scope) : Int).toNat] ++ (aD sec))) (cE _ _ _ _ rfl [UInt8.ofNat ((IntKind.u8.wrap scope) : Int).toNat] (aD sec) kR kR oA) ?_)))
    refine zq 1 (zn (zQ 5 (zn (aA (aH [8,9,10] [(St ([UInt8.ofNat ((IntKind.u8.wrap scope) : Int).toNat] ++ (aD sec))),(St (dB p.bare)),(I6 0)] (fun W' hM => ?_))))))
    have hz0 : (aO p) = 0 := by simpa using h0
    have hz1 : (aG sec) = 0 := by simpa using h1
    have hz : rdZ p l 0 sec = 0 := by simp only [rdZ,bne_self_eq_false,h0,h1,h2,hz0,hz1,bs,bQ,reduceIte]
    have hb : rsB p l 0 sec scope = ([UInt8.ofNat ((IntKind.u8.wrap scope) : Int).toNat] ++ (aD sec)) := by simp only [rsB,hz,h0,h1,h2,hz0,hz1,rdA,rdH,rdS,beq_self_eq_true,bne_self_eq_false,aG9 _ _ hs0 hs7,bs,bQ,reduceIte,List.append_nil]; try rfl
    have ho : roB p l 0 sec = (dB p.bare) := by simp only [roB,hz,h0,h1,h2,hz0,hz1,rdD,beq_self_eq_true,bne_self_eq_false,bs,bQ,reduceIte]; try rfl
    exact ⟨by rw [hz,hb,ho]; rfl,hM.below⟩
   ·
    have h2d := beq_eq_false_iff_ne.1 h2
    refine zk (zQ 5 (zn (aA (aH [8,9,10] [(St [UInt8.ofNat ((IntKind.u8.wrap scope) : Int).toNat]),(St (dB p.bare)),(I6 0)] (fun W' hM => ?_)))))
    have hz0 : (aO p) = 0 := by simpa using h0
    have hz1 : (aG sec) = 0 := by simpa using h1
    have hz : rdZ p l 0 sec = 0 := by simp only [rdZ,bne_self_eq_false,h0,h1,h2,hz0,hz1,bs,bQ,reduceIte]
    have hb : rsB p l 0 sec scope = [UInt8.ofNat ((IntKind.u8.wrap scope) : Int).toNat] := by simp only [rsB,hz,h0,h1,h2,hz0,hz1,rdA,rdH,rdS,beq_self_eq_true,bne_self_eq_false,aG9 _ _ hs0 hs7,bs,bQ,reduceIte,List.append_nil]; try rfl
    have ho : roB p l 0 sec = (dB p.bare) := by simp only [roB,hz,h0,h1,h2,hz0,hz1,rdD,beq_self_eq_true,bne_self_eq_false,bs,bQ,reduceIte]; try rfl
    exact ⟨by rw [hz,hb,ho]; rfl,hM.below⟩
theorem aEb (p : Pr) (l : List Bk) (a : Option Addr) (c : Nat) (target : Int) (sec : Bk) (scope : Int) (w : World) {U : View} (hU : See U w) (hp : p.ok) (hl : cX U a l) (hs : sec.ok) (hs0 : 0 ≤ scope) (hs7 : scope ≤ 7) (ht : (target != 0) = true) (hi : gH l target < 0) : CP 45 #[bnV p a l.length c, .int .i64 target, sec.V, .int .i64 scope] w (Ret (.tuple #[.string (B (rsB p l target sec scope)), .string (B (roB p l target sec)), .int .i64 (rdZ p l target sec)]) w) := by
 refine eG 97 Tryz.func45 hU ?_
 refine zs (zr (cJ (fun b0 => (cJ (fun b1 => (zq 3 (zn (zs (zQ 3 (eE 19 (.bool (decide (scope < 0))) (.bool false) (congrArg Value.bool (decide_eq_false oW)) ?_))))))))))
 refine zq 3 (zn (eS (decide (scope > 7)) (decide_eq_false oW) ?_))
 refine zk (zB [1,0] [(b0,20)] (dA 9 #[(bnV p a l.length c),(I6 target)] (I6 (gH l target)) (fun W hM => lM p l _ _ target W hM.view (hl).to0) ?_))
 refine zq 1 (zn (zs (zQ 3 (eE 28 (.bool (target != 0)) (.bool true) (congrArg Value.bool ht) ?_))))
 refine zq 3 (zn (gP (decide ((gH l target) < 0)) (decide_eq_true hi) ?_))
 refine zQ 3 (zn (aA (aH [8,9,10] [(St []),(St []),(I6 15)] (fun W' hM => ?_))))
 have hz : rdZ p l target sec = 15 := by unfold rdZ; rw [ht,aAL hi]; rfl
 exact ⟨by simp only [rsB,roB,hz]; rfl,hM.below⟩
theorem aEf (p : Pr) (l : List Bk) (a : Option Addr) (c : Nat) (target : Int) (sec : Bk) (scope : Int) (w : World) {U : View} (hU : See U w) (hp : p.ok) (hl : cX U a l) (hs : sec.ok) (hs0 : 0 ≤ scope) (hs7 : scope ≤ 7) : CP 45 #[bnV p a l.length c, .int .i64 target, sec.V, .int .i64 scope] w (Ret (.tuple #[.string (B (rsB p l target sec scope)), .string (B (roB p l target sec)), .int .i64 (rdZ p l target sec)]) w) := by
 by_cases ht0 : target = 0
 ·
  subst ht0
  exact aEi p l a c sec scope w hU hp hl hs hs0 hs7
 ·
  have ht : (target != 0) = true := by simpa using ht0
  by_cases hi : gH l target < 0
  · exact aEb p l a c target sec scope w hU hp hl hs hs0 hs7 ht hi
  ·
   obtain ⟨h1, h2⟩ := aDc hi
   have h := aE2 p l a c target sec scope _ w hU hp hl hs ht h2 h1 hs0 hs7
   have hmay : aFm scope = true := by unfold aFm; rw [decide_eq_true oW, decide_eq_true oW]; rfl
   have e1 : bsZ p l target sec scope = rdZ p l target sec := by
    unfold bsZ
    rw [hmay, show (target == 0) = false by simpa using ht0]
    rfl
   have e2 : bsB p l target sec scope = rsB p l target sec scope := by unfold bsB rsB; rw [e1]
   have e3 : aAH p l target sec scope = roB p l target sec := by
    unfold aAH roB
    rw [e1]
    split
    · rfl
    ·
     next hz =>
     have hz0 : rdZ p l target sec = 0 := by simpa using hz
     have hg : (aJ l target).2 = true := by
      cases hg : (aJ l target).2 with
      | true => rfl
      | false => unfold rdZ at hz0; rw [ht, hg] at hz0; cases hz0
     have hpp : aO p = 0 := by
      unfold rdZ at hz0
      rw [ht, hg] at hz0
      simp only [Bool.not_true, Bool.and_false, Bool.false_eq_true, if_false] at hz0
      split at hz0
      · exact hz0
      · next h => simpa using h
     have hxx : aG (aJ l target).1 = 0 := by
      unfold rdZ at hz0
      rw [ht, hg, hpp] at hz0
      simp only [Bool.not_true, Bool.and_false, Bool.false_eq_true, if_false, bne_self_eq_false, Bool.true_and] at hz0
      split at hz0
      · exact hz0
      · next h => simpa using h
     unfold rdD
     rw [ht, hg, hpp, hxx, show (target == 0) = false by simpa using ht0]
     rfl
   rw [e1, e2, e3] at h
   exact h
theorem aHZ {p : Pr} {l : List Bk} {target : Int} {sec : Bk} {scope : Int} (hs0 : 0 ≤ scope) (hs7 : scope ≤ 7) : txZ p l target sec scope = rdZ p l target sec ∧ txB p l target sec scope = rsB p l target sec scope ++ roB p l target sec := by
 have hmay : aFm scope = true := by unfold aFm; rw [decide_eq_true oW, decide_eq_true oW]; rfl
 have e1 : txZ p l target sec scope = rdZ p l target sec := by unfold txZ; rw [hmay]; rfl
 refine ⟨e1, ?_⟩
 unfold txB rsB roB
 rw [e1]
 split <;> rfl
theorem aBX (p : Pr) (l : List Bk) (a : Option Addr) (c : Nat) (target : Int) (sec : Bk) (scope : Int) (w : World) {U : View} (hU : See U w) (hp : p.ok) (hl : cX U a l) (hs : sec.ok) (hs0 : 0 ≤ scope) (hs7 : scope ≤ 7) (hdl : ∀ x ∈ l, x.d.length ≤ 100000) : CP 20 #[bnV p a l.length c, .int .i64 target, sec.V, .int .i64 scope] w (Ret (.tuple #[.string (B (txB p l target sec scope)), .int .i64 (txZ p l target sec scope)]) w) := by
 rw [(aHZ hs0 hs7).1,(aHZ hs0 hs7).2]
 have hb1 : (rsB p l target sec scope).length ≤ 5000 := by
  unfold rsB
  split
  · exact Nat.zero_le _
  · exact aHf aIC aIB aIA
 have hb2 : (roB p l target sec).length ≤ 200000 := by
  unfold roB
  split
  · exact Nat.zero_le _
  · exact aJm hdl
 refine eG 26 Tryz.func20 hU ?_
 refine zs (zr (cJ (fun b0 => (cJ (fun b1 => (zq 2 (zn (zB [1,0,2,0] [(b0,20),(b1,5)] (dA 45 #[(bnV p a l.length c),(I6 target),(sec.V),(I6 scope)] (.tuple #[(St (rsB p l target sec scope)),(St (roB p l target sec)),(I6 (rdZ p l target sec))]) (fun W hM => aEf p l _ _ target sec scope W hM.view hp hl hs hs0 hs7) ?_)))))))))
 refine zq 7 (zn (zQ 2 (cH (St ((rsB p l target sec scope) ++ (roB p l target sec))) (cE _ _ _ _ rfl (rsB p l target sec scope) (roB p l target sec) kR kR oA) ?_)))
 refine zq 3 (zn (aA (aH [8,9] [(St ((rsB p l target sec scope) ++ (roB p l target sec))),(I6 (rdZ p l target sec))] (fun W' hM => ?_))))
 exact ⟨rfl,hM.below⟩
def aOA : Value := (.agg #[(.bool true), (.slice none 0 0)])
def aNL (r : Value) (V : View) (σ' : aF) : Prop := ∃ eb ib, r = .tuple #[.pointer (some ⟨eb, 0, none⟩), aOA] ∧ aBV V eb ib ∧ σ' = aEB ib
theorem aLd {W0 : Cx} {U : View} {σF : aF} {W : World} (hM : Mem W0 U ([] ++ σF) W) : CP 18 #[.bool true] W (fN W0 U σF aNL) := by
 refine eC 9 Tryz.func18 hM ?_
 refine zQ 1 (dN 0 (fun b0 => ?_))
 refine zn (zs (zQ 1 (zn (dF (zs (zr (aKp 14 #[] (aFG) (fun W hM => aD6 hM) (fun v1 V1 s1 hV1 hP1 => ?_))))))))
 obtain ⟨eb1,ib1,rfl,hg1,rfl⟩ := hP1
 refine zq 2 (aY 1 b0 (zn (aA (dU [0,2] [(b0,2)] [(Pt eb1 0),(.agg #[(.bool true),S0])] (fun W' hM => ?_)))))
 exact dP 0 2 (ib1,.cells #[.slice none 0 0] 76 (0,0)) hM hV1 ⟨eb1,ib1,rfl,hg1,rfl⟩
theorem aD7 {l : List Bk} {t : Int} (h : gH l t < 0) : l.find? (fun x => x.n == t) = none := by
 have := aAL h
 unfold aJ at this
 split at this
 · cases this
 · assumption
theorem aJs {l : List Bk} {x : Bk} (h : gH l x.n < 0) : aJ (gN l x) x.n = (x, true) := by
 have h1 := aD7 h
 have h2 : (l.take (l.length - 1)).find? (fun y => y.n == x.n) = none := by
  rw [List.find?_eq_none] at h1 ⊢
  exact fun y hy => h1 y (List.mem_of_mem_take hy)
 unfold aJ gN
 rw [List.find?_append, List.find?_append, h2, List.find?_cons, beq_self_eq_true]
 rfl
theorem aIS {l : List UInt8} (h : l.length ≤ 100000) : Itm.NOk (dY l) := .mk 2 0 l [] false (by decide) (by unfold Itm.W64; omega) fun i t ht => by simp at ht
theorem aDN {a : As} (ho : a.ok) (h : a.right = true) : gE a.bytes = some a := by
 have hx : ∃ b : As, b.ok ∧ b.right = true ∧ b.bytes = a.bytes := ⟨a, ho, h, rfl⟩
 unfold gE
 rw [dif_pos hx]
 obtain ⟨h1, h2, h3⟩ := hx.choose_spec
 rw [bytes_inj h2 h h1 ho h3]
section
variable {p : Pr} {l : List Bk} {e : Ei} {vr fl : Int} {key : List UInt8} {ts : List Int} {n : Nat}
theorem aAt (h : rT p l e vr fl key ts n = true) : aDw p l 1 ts = 0 ∧ aX e = true ∧ (∀ t ∈ ts, txZ p l t (rZ l) fl = 0 ∧ fL vr key = true) ∧ (oX l e vr fl ts n).right = true := by
 unfold rT at h
 simp only [Bool.and_eq_true, beq_iff_eq] at h
 obtain ⟨⟨⟨h1, h2⟩, h3⟩, h4⟩ := h
 refine ⟨h1, h2, fun t ht => ?_, ?_⟩
 ·
  have := List.all_eq_true.1 h3 t ht
  unfold mX at this
  simpa using this
 ·
  unfold As.outZ at h4
  split at h4
  · assumption
  · cases h4
theorem rQ (h : fL vr key = true) : 5 ≤ vr ∧ vr ≤ 7 ∧ key.length ≤ 64 := by
 unfold fL at h
 have hb : Eng.bits vr > 0 := by
  cases hd : decide (Eng.bits vr > 0) with
  | true => exact of_decide_eq_true hd
  | false => rw [hd] at h; simp at h
 have hk : key.length ≤ 64 := by
  split at h
  ·
   split at h
   · have := of_decide_eq_true h; omega
   · cases h
  · cases h
 unfold Eng.bits at hb
 refine ⟨?_, ?_, hk⟩ <;>
 ·
  split at hb
  · omega
  ·
   split at hb
   · omega
   · split at hb <;> omega
theorem aJG {x : Int} (h0 : 0 ≤ x) (h1 : x ≤ 65535) : aEG (uN x) = x := by
 have h := u64_in (x := x) h0 oW
 have e : ((uN x : Nat) : Int) = x := by rw [← aKV, h]
 unfold aEG
 split <;> omega
theorem aLx (h : fL vr key = true) : 8 ≤ dC vr := by
 obtain ⟨h1, h2, _⟩ := rQ h
 have : vr = 5 ∨ vr = 6 ∨ vr = 7 := by omega
 rcases this with rfl | rfl | rfl <;> decide
theorem sY {n z : Nat} : ∀ {m k : Nat}, k < m → (aFy n z m)[k]? = some (aN0 (n + k) z)
 | m + 1, k, h => by
  rw [aFy]
  by_cases hk : k < m
  · rw [List.getElem?_append_left (by rw [gT]; exact hk), sY hk]
  ·
   obtain rfl : k = m := by omega
   rw [List.getElem?_append_right (by rw [gT]; exact Nat.le_refl _), gT, Nat.sub_self]
   rfl
theorem aGZ {v : Int} : ∀ {l : List Int} (i : Nat), v ∈ l → ∃ k : Nat, aJk v i l = ((i + k : Nat) : Int) ∧ l[k]? = some v
 | x :: r, i, h => by
  rw [aJk]
  by_cases hx : v = x
  ·
   subst hx
   rw [if_pos (beq_self_eq_true v)]
   exact ⟨0, rfl, rfl⟩
  ·
   rw [if_neg (by simpa using hx)]
   obtain ⟨k, h1, h2⟩ := aGZ (i + 1) ((List.mem_cons.1 h).resolve_left hx)
   exact ⟨k + 1, by rw [h1]; congr 1; omega, h2⟩
theorem aMG (he : e.ok) (hv : fL vr key = true) : (oX l e vr fl ts n).ok := by
 have hs := aAG vr
 have hN : ∀ k, Itm.NOk (Itm.cN k) ∨ True := fun _ => .inr trivial
 refine ⟨he, fun x hx => ?_, fun q hq x hx => ?_⟩
 ·
  simp only [oX, aOq, List.mem_cons, List.not_mem_nil, or_false] at hx
  rcases hx with rfl | rfl
  · exact .mk 0 (uN vr) [] [] false (by have := aJJ vr; unfold W64 at this; unfold Itm.W64; omega) (by decide) fun i t ht => by simp at ht
  · exact .mk 0 (uN fl) [] [] false (by have := aJJ fl; unfold W64 at this; unfold Itm.W64; omega) (by decide) fun i t ht => by simp at ht
 ·
  obtain ⟨k, hk⟩ := List.getElem?_of_mem hq
  have hkl : k < ts.length := by
   have := (List.getElem?_eq_some_iff.1 hk).1
   simp only [oX, aOq] at this
   rwa [gT] at this
  simp only [oX, aOq] at hk
  rw [sY hkl] at hk
  cases hk
  simp only [aN0, List.mem_cons, List.not_mem_nil, or_false] at hx
  subst hx
  exact aIS (by rw [Eng.iL]; omega)
theorem aIL {x : En} : ∀ {ts : List Int} {n : Nat}, x ∈ sgT p l vr fl key n ts → ∃ (j : Nat) (y : Int), ts[j]? = some y ∧ x = enS vr key (txB p l y (rZ l) fl) (Eng.aI (n + j + 1) (dC vr))
 | t :: ts, n, h => by
  rw [sgT] at h
  rcases List.mem_cons.1 h with rfl | h
  · exact ⟨0, t, rfl, rfl⟩
  ·
   obtain ⟨j, y, h1, h2⟩ := aIL h
   exact ⟨j + 1, y, h1, by rw [h2, show n + 1 + j + 1 = n + (j + 1) + 1 by omega]⟩
theorem aKD : ∀ {ts : List Int} {n j : Nat} {y : Int}, ts[j]? = some y → enS vr key (txB p l y (rZ l) fl) (Eng.aI (n + j + 1) (dC vr)) ∈ sgT p l vr fl key n ts
 | t :: ts, n, 0, y, h => by
  simp only [List.getElem?_cons_zero, Option.some.injEq] at h
  subst h
  rw [sgT]
  exact List.mem_cons_self ..
 | t :: ts, n, j + 1, y, h => by
  rw [sgT, show n + (j + 1) + 1 = (n + 1) + j + 1 by omega]
  exact List.mem_cons_of_mem _ (aKD (by simpa using h))
theorem aI4 {k : Nat} {t v : Int} {key2 x : List UInt8} (hs : 8 ≤ dC vr) (hn : n + ts.length ≤ 200) (hk : ts[k]? = some t) :
  ((sgT p l vr fl key n ts).any (gB v key2 x (Eng.aI (n + k + 1) (dC vr)))) = (decide (vr = v) && decide (key = key2) && decide (txB p l t (rZ l) fl = x)) := by
 have hkl := (List.getElem?_eq_some_iff.1 hk).1
 rw [Bool.eq_iff_iff, List.any_eq_true]
 simp only [Bool.and_eq_true, decide_eq_true_eq]
 constructor
 ·
  rintro ⟨z, hz, hh⟩
  obtain ⟨j, y, hj, rfl⟩ := aIL hz
  have hjl := (List.getElem?_eq_some_iff.1 hj).1
  unfold gB at hh
  simp only [decide_eq_true_eq, enS, true_and] at hh
  obtain ⟨h1, h2, h3, h4⟩ := hh
  have hjk : j = k := by
   by_cases e : n + j + 1 = n + k + 1
   · omega
   · exact absurd h4 (Eng.aKh hs oW oW e)
  subst hjk
  rw [hk] at hj
  cases hj
  exact ⟨⟨h1, h2⟩, h3⟩
 ·
  rintro ⟨⟨rfl, rfl⟩, rfl⟩
  refine ⟨_, aKD hk, ?_⟩
  unfold gB
  simp [enS]
theorem aNa {q : Pr} {m : List Bk} {t : Int} {s s2 : Bk} (h1 : aG s = 0) (h2 : aG s2 = 0) (hh : aD s = aD s2) : txZ q m t s fl = txZ q m t s2 fl ∧ txB q m t s fl = txB q m t s2 fl := by
 have z : rdZ q m t s = rdZ q m t s2 := by unfold rdZ; rw [h1, h2]
 have z2 : txZ q m t s fl = txZ q m t s2 fl := by unfold txZ; rw [z]
 have z3 : rdS q m t s = rdS q m t s2 := by unfold rdS; rw [h1, h2, hh]
 exact ⟨z2, by unfold txB; rw [z2, z3]⟩
theorem aGr {t : Int} {s : Bk} (h : txZ p l t s fl = 0) : 0 ≤ fl ∧ fl < 8 ∧ aG s = 0 := by
 have hm : aFm fl = true := by
  unfold txZ at h
  cases hm : aFm fl with
  | true => rfl
  | false => rw [hm] at h; cases h
 have hr : rdZ p l t s = 0 := by
  unfold txZ at h
  rw [hm] at h
  exact h
 refine ⟨(aIY hm).1, (aIY hm).2, ?_⟩
 unfold rdZ at hr
 split at hr
 · cases hr
 ·
  split at hr
  · next h1 => rw [hr] at h1; cases h1
  ·
   split at hr
   · next h1 => rw [hr] at h1; simp at h1
   · exact hr
end
theorem aE1 {p q : Pr} {l m : List Bk} {e : Ei} {vr fl t : Int} {key key2 : List UInt8} {ts : List Int} (hs : rT p l e vr fl key ts 0 = true) (hz : aZ p (dR l e vr fl ts 0) = 0) (he : e.ok) (hn : gH m (dX l : Int) < 0) (hl : ts.length ≤ 100) (ht : t ∈ ts) :
  (aBO (sgT p l vr fl key 0 ts) q (gN m (aOv l e vr fl ts 0)) (dX l : Int) t key2 == 0) =
   (if txZ q (gN m (aOv l e vr fl ts 0)) t (aOv l e vr fl ts 0) fl == 0 then (if txB q (gN m (aOv l e vr fl ts 0)) t (aOv l e vr fl ts 0) fl == txB p l t (aOv l e vr fl ts 0) fl then key2 == key else false) else false) := by
 obtain ⟨h1, h2, h3, h4⟩ := aAt hs
 obtain ⟨hx0, hsg⟩ := h3 t ht
 obtain ⟨v5, v7, hkl⟩ := rQ hsg
 obtain ⟨f0, f8, hb0⟩ := aGr hx0
 have hb1 : aG (aOv l e vr fl ts 0) = 0 := (sH hz).2 _ (by unfold dR gN; exact List.mem_append_left _ (List.mem_append_right _ (List.mem_singleton.2 rfl)))
 have hg : aJ (gN m (aOv l e vr fl ts 0)) (dX l : Int) = (aOv l e vr fl ts 0, true) := aJs (x := aOv l e vr fl ts 0) hn
 have hp : gE (aOv l e vr fl ts 0).d = some (oX l e vr fl ts 0) := by
  show gE (oX l e vr fl ts 0).outB = _
  unfold As.outB
  rw [if_pos h4]
  exact aDN (aMG he hsg) h4
 obtain ⟨k, hk1, hk2⟩ := aGZ (l := ts) 0 ht
 rw [Nat.zero_add] at hk1
 have hkl2 := (List.getElem?_eq_some_iff.1 hk2).1
 have hi : ¬ aJk t 0 (oX l e vr fl ts 0).t < 0 := by show ¬ aJk t 0 ts < 0; omega
 have hf : fdZ (gN m (aOv l e vr fl ts 0)) (dX l : Int) t = 0 := by
  unfold fdZ
  rw [hg]
  simp only [hp]
  rw [if_neg (by show ¬ ((!true || ((11:Int) != 11)) = true); decide), if_neg (by show ¬ (((1:Int) != 1) = true); decide), if_neg hi]
 have hR : aDB (oX l e vr fl ts 0) t = aN0 k (dC vr) := by
  have := sY (n := 0) (z := dC vr) hkl2
  rw [Nat.zero_add] at this
  exact aI5 (a := oX l e vr fl ts 0) hk1 this
 have c1 : aEG (aC1 (oX l e vr fl ts 0).p 1) = vr := aJG oW oW
 have c2 : aEG (aC1 (oX l e vr fl ts 0).p 2) = fl := aJG oW oW
 have c3 : aIh (aDB (oX l e vr fl ts 0) t) 1 = Eng.aI (0 + k + 1) (dC vr) := by rw [hR, Nat.zero_add]; rfl
 have hT := (aNa (q := p) (m := l) (t := t) (fl := fl) hb1 hb0 rfl).2
 have hc : aBO (sgT p l vr fl key 0 ts) q (gN m (aOv l e vr fl ts 0)) (dX l : Int) t key2 = if txZ q (gN m (aOv l e vr fl ts 0)) t (aOv l e vr fl ts 0) fl != 0 then txZ q (gN m (aOv l e vr fl ts 0)) t (aOv l e vr fl ts 0) fl else iO (sgT p l vr fl key 0 ts) vr key2 (txB q (gN m (aOv l e vr fl ts 0)) t (aOv l e vr fl ts 0) fl) (Eng.aI (0 + k + 1) (dC vr)) := by
  unfold aBO
  rw [hf, hg]
  simp only [hp]
  have q1 : (pF (oX l e vr fl ts 0).p 1 0).2 = true := rfl
  have q2 : (pF (oX l e vr fl ts 0).p 2 0).2 = true := rfl
  have q3 : (pF (aDB (oX l e vr fl ts 0) t) 1 2).2 = true := by rw [hR]; rfl
  rw [if_neg (show ¬ (((0:Int) != 0) = true) by decide), q1, q2, q3, if_neg (show ¬ ((!true || !true || !true) = true) by decide), c1, c2, c3]
 rw [hc]
 generalize txZ q (gN m (aOv l e vr fl ts 0)) t (aOv l e vr fl ts 0) fl = Z
 generalize txB q (gN m (aOv l e vr fl ts 0)) t (aOv l e vr fl ts 0) fl = X
 by_cases hZ : Z = 0
 ·
  subst hZ
  rw [if_neg (by decide), if_pos (by rfl), hT]
  unfold iO
  rw [aI4 (aLx hsg) oW hk2]
  by_cases hK : key = key2
  ·
   subst hK
   rw [if_neg (by rw [hsg]; decide), decide_eq_true rfl, decide_eq_true rfl, Bool.true_and, Bool.true_and]
   by_cases hX : txB p l t (rZ l) fl = X
   ·
    subst hX
    rw [decide_eq_true rfl, if_neg (by decide), if_pos (beq_self_eq_true _)]
    simp
   ·
    rw [decide_eq_false hX, if_pos rfl, if_neg (by simpa using fun h => hX h.symm)]
    rfl
  ·
   have hK2 : (key2 == key) = false := by simpa using fun h => hK h.symm
   rw [decide_eq_false hK, Bool.and_false, Bool.false_and, hK2]
   have : ∀ b : Bool, (if b = true then false else false) = false := fun b => by cases b <;> rfl
   rw [this]
   split <;> rfl
 ·
  have hZ1 : (Z != 0) = true := by simpa using hZ
  have hZ2 : (Z == 0) = false := by simpa using hZ
  rw [if_pos hZ1, hZ2]
  rfl
end Go.Proofs.YtcdjakemdlinhaaGreatDoor.Sx
