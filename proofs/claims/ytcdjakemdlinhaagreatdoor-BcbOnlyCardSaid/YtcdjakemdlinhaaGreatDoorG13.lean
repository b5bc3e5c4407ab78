/-
  Several texts in one: Rh3 Rh4 Rh5 Rh6 Rh7 Rh8 Rh9 Lbp Lbq.
  Conditions: named at each.
-/
import Derived.Test.YtcdjakemdlinhaaGreatDoorG12
set_option maxHeartbeats 16000000
set_option linter.unusedSimpArgs false
set_option linter.unusedVariables false
set_option linter.unusedSectionVars false
namespace Go.Proofs.YtcdjakemdlinhaaGreatDoor.Sx
open Go.ChangeShapes Go.WideShapes Go.ChangeAt Go.RowKit Go.Deep
theorem aCW (e : Ei) (w : World) (_ : e.l.length ≤ R47) : CP 116 #[e.V] w (Ret (.bool (aX e)) w) := Eid.aGT _ _ _ _ w
def hasB (f k : Nat) : Bool := decide (f / k % 2 = 1)
theorem sW (f k : Nat) (K : Int) (hK : K = (k : Int)) (hf : f < W64) : (((IntKind.u64.wrap ((f : Int).tdiv K)).tmod 2) == 1) = hasB f k := by
 subst hK
 have h1 : ((f : Int).tdiv (k : Int)) = ((f / k : Nat) : Int) := by
  rw [Int.tdiv_eq_ediv_of_nonneg oW]
  simp
 have h2 : f / k ≤ f := Nat.div_le_self _ _
 unfold W64 at hf
 rw [h1, hasB]
 generalize f / k = q at h2 ⊢
 rw [u64_in oW oW, Int.tmod_eq_emod_of_nonneg oW]
 by_cases hq : q % 2 = 1
 ·
  rw [decide_eq_true hq, beq_iff_eq]
  omega
 ·
  rw [decide_eq_false hq, beq_eq_false_iff_ne]
  omega
theorem aAP (f k : Nat) (hf : f < W64) (hk : k < W64) : gC .u64 (f : Int) (k : Int) = ((f &&& k : Nat) : Int) := by
 unfold W64 at hf hk
 have h1 : (BitVec.ofInt 64 (f : Int) &&& BitVec.ofInt 64 (k : Int)).toNat = f &&& k := by
  rw [BitVec.toNat_and, BitVec.ofInt_natCast, BitVec.ofInt_natCast, BitVec.toNat_ofNat, BitVec.toNat_ofNat, Nat.mod_eq_of_lt oW, Nat.mod_eq_of_lt oW]
 have h2 : f &&& k ≤ f := Nat.and_le_left
 show IntKind.u64.wrap ((BitVec.ofInt 64 (f : Int) &&& BitVec.ofInt 64 (k : Int)).toNat : Int) = _
 rw [h1, u64_in oW oW]
theorem tK (f i : Nat) (K : Int) (hf : f < W64) (hi : i < 64) (hK : K = ((2 ^ i : Nat) : Int)) : (gC .u64 (f : Int) K != 0) = hasB f (2 ^ i) := by
 subst hK
 have h3 : 2 ^ i < W64 := by unfold W64; exact Nat.pow_lt_pow_right (by decide) hi
 rw [aAP f _ hf h3, hasB, ← Nat.testBit_eq_decide_div_mod_eq]
 cases hb : f.testBit i with
 | true =>
  have h4 : (f &&& 2 ^ i).testBit i = true := by rw [Nat.testBit_and, hb, Nat.testBit_two_pow_self]; rfl
  have h5 : f &&& 2 ^ i ≠ 0 := fun e => by rw [e, Nat.zero_testBit] at h4; cases h4
  simp only [bne_iff_ne, ne_eq]
  omega
 | false =>
  have h5 : f &&& 2 ^ i = 0 := by
   apply Nat.eq_of_testBit_eq
   intro j
   rw [Nat.testBit_and, Nat.zero_testBit, Nat.testBit_two_pow]
   by_cases hj : i = j
   ·
    subst hj
    rw [hb]
    rfl
   · rw [decide_eq_false hj, Bool.and_false]
  rw [h5]
  rfl
theorem aOj (f : Nat) (hf : f < W64) : (gC .u64 (f : Int) 1 != 0) = hasB f 1 := tK f 0 1 hf (by decide) rfl
theorem aOD (f : Nat) (hf : f < W64) : (gC .u64 (f : Int) 2 != 0) = hasB f 2 := tK f 1 2 hf (by decide) rfl
theorem aOi (f : Nat) (hf : f < W64) : (gC .u64 (f : Int) 4 != 0) = hasB f 4 := tK f 2 4 hf (by decide) rfl
theorem aN9 (f : Nat) (hf : f < W64) : (gC .u64 (f : Int) 278528 != 0) = (hasB f 16384 || hasB f 262144) := by
 rw [show hasB f 16384 = (gC .u64 (f : Int) 16384 != 0) from (tK f 14 16384 hf (by decide) rfl).symm, show hasB f 262144 = (gC .u64 (f : Int) 262144 != 0) from (tK f 18 262144 hf (by decide) rfl).symm,
  show gC .u64 (f : Int) 278528 = ((f &&& 278528 : Nat) : Int) from aAP f 278528 hf (by decide), show gC .u64 (f : Int) 16384 = ((f &&& 16384 : Nat) : Int) from aAP f 16384 hf (by decide), show gC .u64 (f : Int) 262144 = ((f &&& 262144 : Nat) : Int) from aAP f 262144 hf (by decide),
  show (278528 : Nat) = 16384 ||| 262144 by decide, Nat.and_or_distrib_left]
 generalize f &&& 16384 = a
 generalize f &&& 262144 = b
 rw [Bool.eq_iff_iff]
 simp only [bne_iff_ne, ne_eq, Bool.or_eq_true]
 have h : a ||| b = 0 ↔ a = 0 ∧ b = 0 := Nat.or_eq_zero_iff
 omega
theorem aII (f : Nat) (hf : f < W64) (w : World) : CP 75 #[.int .u64 (f : Int), .int .i64 1] w (Ret (.bool (hasB f 1)) w) := by
 refine dK 11 Tryz.func75 ?_
 refine zQ 1 (zn (zQ 4 (eE 8 (U6 (IntKind.u64.wrap (((f : Int)).tdiv 1))) (U6 (IntKind.u64.wrap ((f : Int).tdiv 1))) (congrArg (Value.int .u64) rfl) ?_)))
 refine zq 3 (zn (aA (aH [4] [(.bool ((((IntKind.u64.wrap ((f : Int).tdiv 1))).tmod 2) == 1))] (fun W' hM => ?_))))
 refine ⟨congrArg (fun z => Ending.returned (Value.bool z)) (sW f 1 1 rfl hf),hM.below⟩
theorem aAq (f : Nat) (hf : f < W64) (w : World) : CP 75 #[.int .u64 (f : Int), .int .i64 2] w (Ret (.bool (hasB f 2)) w) := by
 refine dK 11 Tryz.func75 ?_
 refine zQ 1 (zn (zQ 4 (eE 8 (U6 (IntKind.u64.wrap (((f : Int)).tdiv 2))) (U6 (IntKind.u64.wrap ((f : Int).tdiv 2))) (congrArg (Value.int .u64) rfl) ?_)))
 refine zq 3 (zn (aA (aH [4] [(.bool ((((IntKind.u64.wrap ((f : Int).tdiv 2))).tmod 2) == 1))] (fun W' hM => ?_))))
 refine ⟨congrArg (fun z => Ending.returned (Value.bool z)) (sW f 2 2 rfl hf),hM.below⟩
theorem aF0 (f : Nat) (hf : f < W64) (w : World) : CP 75 #[.int .u64 (f : Int), .int .i64 4] w (Ret (.bool (hasB f 4)) w) := by
 refine dK 11 Tryz.func75 ?_
 refine zQ 1 (zn (zQ 4 (eE 8 (U6 (IntKind.u64.wrap (((f : Int)).tdiv 4))) (U6 (IntKind.u64.wrap ((f : Int).tdiv 4))) (congrArg (Value.int .u64) rfl) ?_)))
 refine zq 3 (zn (aA (aH [4] [(.bool ((((IntKind.u64.wrap ((f : Int).tdiv 4))).tmod 2) == 1))] (fun W' hM => ?_))))
 refine ⟨congrArg (fun z => Ending.returned (Value.bool z)) (sW f 4 4 rfl hf),hM.below⟩
theorem aGV (f : Nat) (hf : f < W64) (w : World) : CP 75 #[.int .u64 (f : Int), .int .i64 16384] w (Ret (.bool (hasB f 16384)) w) := by
 refine dK 11 Tryz.func75 ?_
 refine zQ 1 (zn (zQ 4 (eE 8 (U6 (IntKind.u64.wrap (((f : Int)).tdiv 16384))) (U6 (IntKind.u64.wrap ((f : Int).tdiv 16384))) (congrArg (Value.int .u64) rfl) ?_)))
 refine zq 3 (zn (aA (aH [4] [(.bool ((((IntKind.u64.wrap ((f : Int).tdiv 16384))).tmod 2) == 1))] (fun W' hM => ?_))))
 refine ⟨congrArg (fun z => Ending.returned (Value.bool z)) (sW f 16384 16384 rfl hf),hM.below⟩
theorem aE8 (f : Nat) (hf : f < W64) (w : World) : CP 75 #[.int .u64 (f : Int), .int .i64 262144] w (Ret (.bool (hasB f 262144)) w) := by
 refine dK 11 Tryz.func75 ?_
 refine zQ 1 (zn (zQ 4 (eE 8 (U6 (IntKind.u64.wrap (((f : Int)).tdiv 262144))) (U6 (IntKind.u64.wrap ((f : Int).tdiv 262144))) (congrArg (Value.int .u64) rfl) ?_)))
 refine zq 3 (zn (aA (aH [4] [(.bool ((((IntKind.u64.wrap ((f : Int).tdiv 262144))).tmod 2) == 1))] (fun W' hM => ?_))))
 refine ⟨congrArg (fun z => Ending.returned (Value.bool z)) (sW f 262144 262144 rfl hf),hM.below⟩
def cV (p : Pr) : Int :=
 if !aX p.dst || !aX p.src || !aX p.rpt || decide (p.c < 0) || decide (p.c > 2) || decide ((p.f : Int) ≥ 2097152) then 1
 else if big p.time || big p.seq || big p.life || big p.off || big p.tot then 1
 else if (hasB p.f 1 && (hasB p.f 4 || decide ((p.off : Int) ≥ (p.tot : Int)))) || (!hasB p.f 1 && (decide ((p.off : Int) > 0) || decide ((p.tot : Int) > 0))) then 8
 else if ((hasB p.f 16384 || hasB p.f 262144) && (((p.src.s == 1) && (p.src.l == [110, 111, 110, 101])) || hasB p.f 2)) || (((p.src.s == 1) && (p.src.l == [110, 111, 110, 101])) && !hasB p.f 4) then 8 else 0
theorem aA2 (p : Pr) (w : World) (h : p.ok) : CP 71 #[p.V] w (Ret (.int .i64 (cV p)) w) := by
 refine dK 124 Tryz.func71 ?_
 refine zs (zr (cJ (fun b0 => (zq 1 (zn (zs (zB [0,1] [(b0,4)] (dL (fun W hM => aCW p.dst W h.dst.l) (zq 2 (aK 12 (!(aX p.dst)) (fun h0 => ?_) (fun h0 => ?_)))))))))))
 ·
  refine zq 26 (zn (dF (zQ 1 (zn (aA (aH [2] [(I6 1)] (fun W' hM => ?_)))))))
  exact ⟨by simp only [cG,cV,big,h0,bs,bQ,reduceIte],hM.below⟩
 ·
  refine cU [0,1] [(b0,4)] (dL (fun W hM => aCW p.src W h.src.l) (zq 3 (aK 18 (!(aX p.src)) (fun h1 => ?_) (fun h1 => ?_))))
  ·
   refine zq 20 (zn (dF (zQ 1 (zn (aA (aH [2] [(I6 1)] (fun W' hM => ?_)))))))
   exact ⟨by simp only [cG,cV,big,h0,h1,bs,bQ,reduceIte],hM.below⟩
  ·
   refine cU [0,1] [(b0,4)] (dL (fun W hM => aCW p.rpt W h.rpt.l) (zq 3 (aK 24 (!(aX p.rpt)) (fun h2 => ?_) (fun h2 => ?_))))
   ·
    refine zq 14 (zn (dF (zQ 1 (zn (aA (aH [2] [(I6 1)] (fun W' hM => ?_)))))))
    exact ⟨by simp only [cG,cV,big,h0,h1,h2,bs,bQ,reduceIte],hM.below⟩
   ·
    refine cU [0,1,0,0,0] [(b0,1)] (aK 29 (decide (p.c < 0)) (fun h3 => ?_) (fun h3 => ?_))
    ·
     refine zq 9 (zn (dF (zQ 1 (zn (aA (aH [2] [(I6 1)] (fun W' hM => ?_)))))))
     exact ⟨by simp only [cG,cV,big,h0,h1,h2,h3,bs,bQ,reduceIte],hM.below⟩
    ·
     have h3d := of_decide_eq_false h3
     refine cU [0,1,0,0,0] [(b0,1)] (aK 34 (decide (p.c > 2)) (fun h4 => ?_) (fun h4 => ?_))
     ·
      refine zq 4 (zn (dF (zQ 1 (zn (aA (aH [2] [(I6 1)] (fun W' hM => ?_)))))))
      exact ⟨by simp only [cG,cV,big,h0,h1,h2,h3,h4,bs,bQ,reduceIte],hM.below⟩
     ·
      have h4d := of_decide_eq_false h4
      refine cU [0,1,0,0] [(b0,1)] (zn (cD (decide ((p.f : Int) ≥ 2097152)) (fun h5 => ?_) (fun h5 => ?_)))
      ·
       refine zQ 1 (zn (aA (aH [2] [(I6 1)] (fun W' hM => ?_))))
       exact ⟨by simp only [cG,cV,big,h0,h1,h2,h3,h4,h5,bs,bQ,reduceIte],hM.below⟩
      ·
       have h5d := of_decide_eq_false h5
       refine zk (zB [0,1,0,1,0,1,0,1,0,1,0] [(b0,1),(b0,1),(b0,1),(b0,1),(b0,1)] (cJ (fun b1 => (aY 1 b1 (zn (zs (zQ 1 (zn (aB (gX (α := Nat) (fun x => match x with | 0 => [1,2,3,4].zip [(Pt b0 0),(I6 0),(Pt b1 0),(I6 0)] | 1 => [1,2,3,4].zip [(Pt b0 0),(I6 0),(Pt b1 0),(I6 1)] | 2 => [1,2,3,4].zip [(Pt b0 0),(I6 0),(Pt b1 0),(I6 2)] | 3 => [1,2,3,4].zip [(Pt b0 0),(I6 0),(Pt b1 0),(I6 3)] | 4 => [1,2,3,4].zip [(Pt b0 0),(I6 0),(Pt b1 0),(I6 4)] | _ => [1,2,3,4].zip [(Pt b0 0),(I6 0),(Pt b1 0),(I6 5)]) (fun _ => View.no) (fun x => [(bK b0 p.cs 26),(bK b1 [(N6 p.time),(N6 p.seq),(N6 p.life),(N6 p.off),(N6 p.tot)] 189)]) (fun x => x ≤ 5 ∧ (0 < x → (decide ((p.time : Int) > 1099511627776)) = false) ∧ (1 < x → (decide ((p.seq : Int) > 1099511627776)) = false) ∧ (2 < x → (decide ((p.life : Int) > 1099511627776)) = false) ∧ (3 < x → (decide ((p.off : Int) > 1099511627776)) = false) ∧ (4 < x → (decide ((p.tot : Int) > 1099511627776)) = false)) (fun x => 5 - x) 0 ⟨by omega,fun h => absurd h oW,fun h => absurd h oW,fun h => absurd h oW,fun h => absurd h oW,fun h => absurd h oW⟩ ?_))))))))))
       rintro x ⟨hx,hc0_0,hc1_0,hc2_0,hc3_0,hc4_0⟩
       rcases (by omega : x = 0 ∨ x = 1 ∨ x = 2 ∨ x = 3 ∨ x = 4 ∨ x = 5) with rfl | rfl | rfl | rfl | rfl | rfl
       ·
        refine zs (zQ 2 (zn (dF (zk (zs (aB (zQ 1 (cH (Pt b1 0) (aA1 _ 22 _ _ rfl b1 0 5 0 1 .i64 kR kR (by first | assumption | omega) kR kR) ?_))))))))
        refine cU [2,0] [(b1,1)] (zn (cD (decide ((p.time : Int) > 1099511627776)) (fun h6 => ?_) (fun h6 => ?_)))
        ·
         refine zQ 1 (zn (aA (aH [2] [(I6 1)] (fun W' hM => ?_))))
         exact ⟨by simp only [cG,cV,big,h0,h1,h2,h3,h4,h5,h6,bs,bQ,reduceIte],hM.below⟩
        ·
         have h6d := of_decide_eq_false h6
         refine zk (zr (zq 3 (zn ?_)))
         refine nx 1 ⟨by omega,fun _ => h6,fun h => absurd h oW,fun h => absurd h oW,fun h => absurd h oW,fun h => absurd h oW⟩ (by show 5 - 1 < 5 - 0; omega)
       ·
        refine zs (zQ 2 (zn (dF (zk (zs (aB (zQ 1 (cH (Pt b1 1) (aA1 _ 22 _ _ rfl b1 0 5 1 1 .i64 kR kR (by first | assumption | omega) kR kR) ?_))))))))
        refine cU [2,0] [(b1,1)] (zn (cD (decide ((p.seq : Int) > 1099511627776)) (fun h7 => ?_) (fun h7 => ?_)))
        ·
         have h7d := of_decide_eq_true h7
         refine zQ 1 (zn (aA (aH [2] [(I6 1)] (fun W' hM => ?_))))
         exact ⟨by simp only [cG,cV,big,(hc0_0 oW),h0,h1,h2,h3,h4,h5,h7,bs,bQ,reduceIte],hM.below⟩
        ·
         have h7d := of_decide_eq_false h7
         refine zk (zr (zq 3 (zn ?_)))
         refine nx 2 ⟨by omega,fun _ => hc0_0 oW,fun _ => h7,fun h => absurd h oW,fun h => absurd h oW,fun h => absurd h oW⟩ (by show 5 - 2 < 5 - 1; omega)
       ·
        refine zs (zQ 2 (zn (dF (zk (zs (aB (zQ 1 (cH (Pt b1 2) (aA1 _ 22 _ _ rfl b1 0 5 2 1 .i64 kR kR (by first | assumption | omega) kR kR) ?_))))))))
        refine cU [2,0] [(b1,1)] (zn (cD (decide ((p.life : Int) > 1099511627776)) (fun h8 => ?_) (fun h8 => ?_)))
        ·
         have h8d := of_decide_eq_true h8
         refine zQ 1 (zn (aA (aH [2] [(I6 1)] (fun W' hM => ?_))))
         exact ⟨by simp only [cG,cV,big,(hc0_0 oW),(hc1_0 oW),h0,h1,h2,h3,h4,h5,h8,bs,bQ,reduceIte],hM.below⟩
        ·
         have h8d := of_decide_eq_false h8
         refine zk (zr (zq 3 (zn ?_)))
         refine nx 3 ⟨by omega,fun _ => hc0_0 oW,fun _ => hc1_0 oW,fun _ => h8,fun h => absurd h oW,fun h => absurd h oW⟩ (by show 5 - 3 < 5 - 2; omega)
       ·
        refine zs (zQ 2 (zn (dF (zk (zs (aB (zQ 1 (cH (Pt b1 3) (aA1 _ 22 _ _ rfl b1 0 5 3 1 .i64 kR kR (by first | assumption | omega) kR kR) ?_))))))))
        refine cU [2,0] [(b1,1)] (zn (cD (decide ((p.off : Int) > 1099511627776)) (fun h9 => ?_) (fun h9 => ?_)))
        ·
         have h9d := of_decide_eq_true h9
         refine zQ 1 (zn (aA (aH [2] [(I6 1)] (fun W' hM => ?_))))
         exact ⟨by simp only [cG,cV,big,(hc0_0 oW),(hc1_0 oW),(hc2_0 oW),h0,h1,h2,h3,h4,h5,h9,bs,bQ,reduceIte],hM.below⟩
        ·
         have h9d := of_decide_eq_false h9
         refine zk (zr (zq 3 (zn ?_)))
         refine nx 4 ⟨by omega,fun _ => hc0_0 oW,fun _ => hc1_0 oW,fun _ => hc2_0 oW,fun _ => h9,fun h => absurd h oW⟩ (by show 5 - 4 < 5 - 3; omega)
       ·
        refine zs (zQ 2 (zn (dF (zk (zs (aB (zQ 1 (cH (Pt b1 4) (aA1 _ 22 _ _ rfl b1 0 5 4 1 .i64 kR kR (by first | assumption | omega) kR kR) ?_))))))))
        refine cU [2,0] [(b1,1)] (zn (cD (decide ((p.tot : Int) > 1099511627776)) (fun h10 => ?_) (fun h10 => ?_)))
        ·
         have h10d := of_decide_eq_true h10
         refine zQ 1 (zn (aA (aH [2] [(I6 1)] (fun W' hM => ?_))))
         exact ⟨by simp only [cG,cV,big,(hc0_0 oW),(hc1_0 oW),(hc2_0 oW),(hc3_0 oW),h0,h1,h10,h2,h3,h4,h5,bs,bQ,reduceIte],hM.below⟩
        ·
         have h10d := of_decide_eq_false h10
         refine zk (zr (zq 3 (zn ?_)))
         refine nx 5 ⟨by omega,fun _ => hc0_0 oW,fun _ => hc1_0 oW,fun _ => hc2_0 oW,fun _ => hc3_0 oW,fun _ => h10⟩ (by show 5 - 5 < 5 - 4; omega)
       ·
        refine zs (zQ 2 (zn (dE (aU (zB [0,1] [(b0,1)] (dL (fun W hM => aII p.f h.f W) (zq 1 (zn (zB [0,1] [(b0,1)] (dL (fun W hM => aGV p.f h.f W) (zq 1 (aK 64 (hasB p.f 16384) (fun h11 => ?_) (fun h11 => ?_)))))))))))))
        ·
         refine zq 5 (zn (zs (zQ 2 (aK 70 (hasB p.f 1) (fun h12 => ?_) (fun h12 => ?_)))))
         ·
          refine cU [0,1] [(b0,1)] (dL (fun W hM => aF0 p.f h.f W) (zq 1 (aK 74 (hasB p.f 4) (fun h13 => ?_) (fun h13 => ?_))))
          ·
           refine zq 21 (zn (dF (zQ 1 (zn (aA (aH [2] [(I6 8)] (fun W' hM => ?_)))))))
           exact ⟨by simp only [cG,cV,big,(hc0_0 oW),(hc1_0 oW),(hc2_0 oW),(hc3_0 oW),(hc4_0 oW),h0,h1,h11,h12,h13,h2,h3,h4,h5,bs,bQ,reduceIte],hM.below⟩
          ·
           refine cU [0,1,0,1,0,0,0,0] [(b0,1),(b0,1)] (aK 82 (decide ((p.off : Int) ≥ (p.tot : Int))) (fun h14 => ?_) (fun h14 => ?_))
           ·
            have h14d := of_decide_eq_true h14
            refine zq 13 (zn (dF (zQ 1 (zn (aA (aH [2] [(I6 8)] (fun W' hM => ?_)))))))
            exact ⟨by simp only [cG,cV,big,(hc0_0 oW),(hc1_0 oW),(hc2_0 oW),(hc3_0 oW),(hc4_0 oW),h0,h1,h11,h12,h13,h14,h2,h3,h4,h5,bs,bQ,reduceIte],hM.below⟩
           ·
            have h14d := of_decide_eq_false h14
            refine zq 3 (eE 85 (.bool (!(hasB p.f 1))) (.bool false) (congrArg Value.bool (by rw [h12]; rfl)) ?_)
            refine zq 10 (zn (dE (zk (zB [0,0,1,0,0] [(b0,1)] (aK 100 (p.src.s == 1) (fun h15 => ?_) (fun h15 => ?_))))))
            ·
             have h15d := eq_of_beq h15
             refine cU [0,0,1] [(b0,1)] (cH (.bool (p.src.l == [110,111,110,101])) (eJ _ _ _ _ rfl p.src.l [110,111,110,101] kR kR) ?_)
             refine zq 2 (zn (zs (zQ 4 (aK 109 (p.src.l == [110,111,110,101]) (fun h16 => ?_) (fun h16 => ?_)))))
             ·
              have h16d := eq_of_beq h16
              refine zq 14 (zn (dF (zQ 1 (zn (aA (aH [2] [(I6 8)] (fun W' hM => ?_)))))))
              exact ⟨by simp only [cG,cV,big,(hc0_0 oW),(hc1_0 oW),(hc2_0 oW),(hc3_0 oW),(hc4_0 oW),h0,h1,h11,h12,h13,h14,h15,h16,h2,h3,h4,h5,bs,bQ,reduceIte],hM.below⟩
             ·
              have h16d := beq_eq_false_iff_ne.1 h16
              refine cU [0,1] [(b0,1)] (dL (fun W hM => aAq p.f h.f W) (zq 3 (aK 115 (hasB p.f 2) (fun h17 => ?_) (fun h17 => ?_))))
              ·
               refine zq 8 (zn (dF (zQ 1 (zn (aA (aH [2] [(I6 8)] (fun W' hM => ?_)))))))
               exact ⟨by simp only [cG,cV,big,(hc0_0 oW),(hc1_0 oW),(hc2_0 oW),(hc3_0 oW),(hc4_0 oW),h0,h1,h11,h12,h13,h14,h15,h16,h17,h2,h3,h4,h5,bs,bQ,reduceIte],hM.below⟩
              ·
               refine zq 2 (eE 117 (.bool (p.src.l == [110,111,110,101])) (.bool false) (congrArg Value.bool h16) ?_)
               refine zq 6 (zn (dE (zk (zQ 1 (zn (aA (aH [2] [(I6 0)] (fun W' hM => ?_))))))))
               exact ⟨by simp only [cG,cV,big,(hc0_0 oW),(hc1_0 oW),(hc2_0 oW),(hc3_0 oW),(hc4_0 oW),h0,h1,h11,h12,h13,h14,h15,h16,h17,h2,h3,h4,h5,bs,bQ,reduceIte],hM.below⟩
            ·
             have h15d := beq_eq_false_iff_ne.1 h15
             refine zq 6 (zn (zs (zB [0,0,0,0,0,1] [(b0,1)] (dL (fun W hM => aAq p.f h.f W) (zq 3 (aK 115 (hasB p.f 2) (fun h18 => ?_) (fun h18 => ?_)))))))
             ·
              refine zq 8 (zn (dF (zQ 1 (zn (aA (aH [2] [(I6 8)] (fun W' hM => ?_)))))))
              exact ⟨by simp only [cG,cV,big,(hc0_0 oW),(hc1_0 oW),(hc2_0 oW),(hc3_0 oW),(hc4_0 oW),h0,h1,h11,h12,h13,h14,h15,h18,h2,h3,h4,h5,bs,bQ,reduceIte],hM.below⟩
             ·
              refine zq 8 (zn (dE (zk (zQ 1 (zn (aA (aH [2] [(I6 0)] (fun W' hM => ?_))))))))
              exact ⟨by simp only [cG,cV,big,(hc0_0 oW),(hc1_0 oW),(hc2_0 oW),(hc3_0 oW),(hc4_0 oW),h0,h1,h11,h12,h13,h14,h15,h18,h2,h3,h4,h5,bs,bQ,reduceIte],hM.below⟩
         ·
          refine zq 15 (eE 85 (.bool (!(hasB p.f 1))) (.bool true) (congrArg Value.bool (by rw [h12]; rfl)) ?_)
          refine cU [0,1,0,0] [(b0,1)] (aK 89 (decide ((p.off : Int) > 0)) (fun h19 => ?_) (fun h19 => ?_))
          ·
           have h19d := of_decide_eq_true h19
           refine zq 6 (zn (dF (zQ 1 (zn (aA (aH [2] [(I6 8)] (fun W' hM => ?_)))))))
           exact ⟨by simp only [cG,cV,big,(hc0_0 oW),(hc1_0 oW),(hc2_0 oW),(hc3_0 oW),(hc4_0 oW),h0,h1,h11,h12,h19,h2,h3,h4,h5,bs,bQ,reduceIte],hM.below⟩
          ·
           have h19d := of_decide_eq_false h19
           refine cU [0,1,0,0,0,0] [(b0,1)] (zn (cD (decide ((p.tot : Int) > 0)) (fun h20 => ?_) (fun h20 => ?_)))
           ·
            have h20d := of_decide_eq_true h20
            refine zQ 1 (zn (aA (aH [2] [(I6 8)] (fun W' hM => ?_))))
            exact ⟨by simp only [cG,cV,big,(hc0_0 oW),(hc1_0 oW),(hc2_0 oW),(hc3_0 oW),(hc4_0 oW),h0,h1,h11,h12,h19,h2,h20,h3,h4,h5,bs,bQ,reduceIte],hM.below⟩
           ·
            have h20d := of_decide_eq_false h20
            refine zk (zB [0,0,1,0,0] [(b0,1)] (aK 100 (p.src.s == 1) (fun h21 => ?_) (fun h21 => ?_)))
            ·
             have h21d := eq_of_beq h21
             refine cU [0,0,1] [(b0,1)] (cH (.bool (p.src.l == [110,111,110,101])) (eJ _ _ _ _ rfl p.src.l [110,111,110,101] kR kR) ?_)
             refine zq 2 (zn (zs (zQ 4 (aK 109 (p.src.l == [110,111,110,101]) (fun h22 => ?_) (fun h22 => ?_)))))
             ·
              have h22d := eq_of_beq h22
              refine zq 14 (zn (dF (zQ 1 (zn (aA (aH [2] [(I6 8)] (fun W' hM => ?_)))))))
              exact ⟨by simp only [cG,cV,big,(hc0_0 oW),(hc1_0 oW),(hc2_0 oW),(hc3_0 oW),(hc4_0 oW),h0,h1,h11,h12,h19,h2,h20,h21,h22,h3,h4,h5,bs,bQ,reduceIte],hM.below⟩
             ·
              have h22d := beq_eq_false_iff_ne.1 h22
              refine cU [0,1] [(b0,1)] (dL (fun W hM => aAq p.f h.f W) (zq 3 (aK 115 (hasB p.f 2) (fun h23 => ?_) (fun h23 => ?_))))
              ·
               refine zq 8 (zn (dF (zQ 1 (zn (aA (aH [2] [(I6 8)] (fun W' hM => ?_)))))))
               exact ⟨by simp only [cG,cV,big,(hc0_0 oW),(hc1_0 oW),(hc2_0 oW),(hc3_0 oW),(hc4_0 oW),h0,h1,h11,h12,h19,h2,h20,h21,h22,h23,h3,h4,h5,bs,bQ,reduceIte],hM.below⟩
              ·
               refine zq 2 (eE 117 (.bool (p.src.l == [110,111,110,101])) (.bool false) (congrArg Value.bool h22) ?_)
               refine zq 6 (zn (dE (zk (zQ 1 (zn (aA (aH [2] [(I6 0)] (fun W' hM => ?_))))))))
               exact ⟨by simp only [cG,cV,big,(hc0_0 oW),(hc1_0 oW),(hc2_0 oW),(hc3_0 oW),(hc4_0 oW),h0,h1,h11,h12,h19,h2,h20,h21,h22,h23,h3,h4,h5,bs,bQ,reduceIte],hM.below⟩
            ·
             have h21d := beq_eq_false_iff_ne.1 h21
             refine zq 6 (zn (zs (zB [0,0,0,0,0,1] [(b0,1)] (dL (fun W hM => aAq p.f h.f W) (zq 3 (aK 115 (hasB p.f 2) (fun h24 => ?_) (fun h24 => ?_)))))))
             ·
              refine zq 8 (zn (dF (zQ 1 (zn (aA (aH [2] [(I6 8)] (fun W' hM => ?_)))))))
              exact ⟨by simp only [cG,cV,big,(hc0_0 oW),(hc1_0 oW),(hc2_0 oW),(hc3_0 oW),(hc4_0 oW),h0,h1,h11,h12,h19,h2,h20,h21,h24,h3,h4,h5,bs,bQ,reduceIte],hM.below⟩
             ·
              refine zq 8 (zn (dE (zk (zQ 1 (zn (aA (aH [2] [(I6 0)] (fun W' hM => ?_))))))))
              exact ⟨by simp only [cG,cV,big,(hc0_0 oW),(hc1_0 oW),(hc2_0 oW),(hc3_0 oW),(hc4_0 oW),h0,h1,h11,h12,h19,h2,h20,h21,h24,h3,h4,h5,bs,bQ,reduceIte],hM.below⟩
        ·
         refine cU [0,1] [(b0,1)] (dL (fun W hM => aE8 p.f h.f W) (zq 2 (zn (zs (zQ 2 (aK 70 (hasB p.f 1) (fun h25 => ?_) (fun h25 => ?_)))))))
         ·
          refine cU [0,1] [(b0,1)] (dL (fun W hM => aF0 p.f h.f W) (zq 1 (aK 74 (hasB p.f 4) (fun h26 => ?_) (fun h26 => ?_))))
          ·
           refine zq 21 (zn (dF (zQ 1 (zn (aA (aH [2] [(I6 8)] (fun W' hM => ?_)))))))
           exact ⟨by simp only [cG,cV,big,(hc0_0 oW),(hc1_0 oW),(hc2_0 oW),(hc3_0 oW),(hc4_0 oW),h0,h1,h11,h2,h25,h26,h3,h4,h5,bs,bQ,reduceIte],hM.below⟩
          ·
           refine cU [0,1,0,1,0,0,0,0] [(b0,1),(b0,1)] (aK 82 (decide ((p.off : Int) ≥ (p.tot : Int))) (fun h27 => ?_) (fun h27 => ?_))
           ·
            have h27d := of_decide_eq_true h27
            refine zq 13 (zn (dF (zQ 1 (zn (aA (aH [2] [(I6 8)] (fun W' hM => ?_)))))))
            exact ⟨by simp only [cG,cV,big,(hc0_0 oW),(hc1_0 oW),(hc2_0 oW),(hc3_0 oW),(hc4_0 oW),h0,h1,h11,h2,h25,h26,h27,h3,h4,h5,bs,bQ,reduceIte],hM.below⟩
           ·
            have h27d := of_decide_eq_false h27
            refine zq 3 (eE 85 (.bool (!(hasB p.f 1))) (.bool false) (congrArg Value.bool (by rw [h25]; rfl)) ?_)
            refine zq 10 (zn (dE (zk (zB [0,0,1,0,0] [(b0,1)] (aK 100 (p.src.s == 1) (fun h28 => ?_) (fun h28 => ?_))))))
            ·
             have h28d := eq_of_beq h28
             refine cU [0,0,1] [(b0,1)] (cH (.bool (p.src.l == [110,111,110,101])) (eJ _ _ _ _ rfl p.src.l [110,111,110,101] kR kR) ?_)
             refine zq 2 (zn (zs (zQ 2 (aK 107 (hasB p.f 262144) (fun h29 => ?_) (fun h29 => ?_)))))
             ·
              refine zq 2 (aK 109 (p.src.l == [110,111,110,101]) (fun h30 => ?_) (fun h30 => ?_))
              ·
               have h30d := eq_of_beq h30
               refine zq 14 (zn (dF (zQ 1 (zn (aA (aH [2] [(I6 8)] (fun W' hM => ?_)))))))
               exact ⟨by simp only [cG,cV,big,(hc0_0 oW),(hc1_0 oW),(hc2_0 oW),(hc3_0 oW),(hc4_0 oW),h0,h1,h11,h2,h25,h26,h27,h28,h29,h3,h30,h4,h5,bs,bQ,reduceIte],hM.below⟩
              ·
               have h30d := beq_eq_false_iff_ne.1 h30
               refine cU [0,1] [(b0,1)] (dL (fun W hM => aAq p.f h.f W) (zq 3 (aK 115 (hasB p.f 2) (fun h31 => ?_) (fun h31 => ?_))))
               ·
                refine zq 8 (zn (dF (zQ 1 (zn (aA (aH [2] [(I6 8)] (fun W' hM => ?_)))))))
                exact ⟨by simp only [cG,cV,big,(hc0_0 oW),(hc1_0 oW),(hc2_0 oW),(hc3_0 oW),(hc4_0 oW),h0,h1,h11,h2,h25,h26,h27,h28,h29,h3,h30,h31,h4,h5,bs,bQ,reduceIte],hM.below⟩
               ·
                refine zq 2 (eE 117 (.bool (p.src.l == [110,111,110,101])) (.bool false) (congrArg Value.bool h30) ?_)
                refine zq 6 (zn (dE (zk (zQ 1 (zn (aA (aH [2] [(I6 0)] (fun W' hM => ?_))))))))
                exact ⟨by simp only [cG,cV,big,(hc0_0 oW),(hc1_0 oW),(hc2_0 oW),(hc3_0 oW),(hc4_0 oW),h0,h1,h11,h2,h25,h26,h27,h28,h29,h3,h30,h31,h4,h5,bs,bQ,reduceIte],hM.below⟩
             ·
              refine zq 10 (aK 117 (p.src.l == [110,111,110,101]) (fun h32 => ?_) (fun h32 => ?_))
              ·
               have h32d := eq_of_beq h32
               refine cU [0,1] [(b0,1)] (dL (fun W hM => aF0 p.f h.f W) (zq 3 (zn (gP (!(hasB p.f 4)) (by rw [h26]; rfl) ?_))))
               refine zQ 1 (zn (aA (aH [2] [(I6 8)] (fun W' hM => ?_))))
               exact ⟨by simp only [cG,cV,big,(hc0_0 oW),(hc1_0 oW),(hc2_0 oW),(hc3_0 oW),(hc4_0 oW),h0,h1,h11,h2,h25,h26,h27,h28,h29,h3,h32,h4,h5,bs,bQ,reduceIte],hM.below⟩
              ·
               have h32d := beq_eq_false_iff_ne.1 h32
               refine zq 6 (zn (dE (zk (zQ 1 (zn (aA (aH [2] [(I6 0)] (fun W' hM => ?_))))))))
               exact ⟨by simp only [cG,cV,big,(hc0_0 oW),(hc1_0 oW),(hc2_0 oW),(hc3_0 oW),(hc4_0 oW),h0,h1,h11,h2,h25,h26,h27,h28,h29,h3,h32,h4,h5,bs,bQ,reduceIte],hM.below⟩
            ·
             have h28d := beq_eq_false_iff_ne.1 h28
             refine zq 6 (zn (zs (zQ 2 (aK 107 (hasB p.f 262144) (fun h33 => ?_) (fun h33 => ?_)))))
             ·
              refine cU [0,0,0,1] [(b0,1)] (dL (fun W hM => aAq p.f h.f W) (zq 3 (aK 115 (hasB p.f 2) (fun h34 => ?_) (fun h34 => ?_))))
              ·
               refine zq 8 (zn (dF (zQ 1 (zn (aA (aH [2] [(I6 8)] (fun W' hM => ?_)))))))
               exact ⟨by simp only [cG,cV,big,(hc0_0 oW),(hc1_0 oW),(hc2_0 oW),(hc3_0 oW),(hc4_0 oW),h0,h1,h11,h2,h25,h26,h27,h28,h3,h33,h34,h4,h5,bs,bQ,reduceIte],hM.below⟩
              ·
               refine zq 8 (zn (dE (zk (zQ 1 (zn (aA (aH [2] [(I6 0)] (fun W' hM => ?_))))))))
               exact ⟨by simp only [cG,cV,big,(hc0_0 oW),(hc1_0 oW),(hc2_0 oW),(hc3_0 oW),(hc4_0 oW),h0,h1,h11,h2,h25,h26,h27,h28,h3,h33,h34,h4,h5,bs,bQ,reduceIte],hM.below⟩
             ·
              refine zq 16 (zn (dE (zk (zQ 1 (zn (aA (aH [2] [(I6 0)] (fun W' hM => ?_))))))))
              exact ⟨by simp only [cG,cV,big,(hc0_0 oW),(hc1_0 oW),(hc2_0 oW),(hc3_0 oW),(hc4_0 oW),h0,h1,h11,h2,h25,h26,h27,h28,h3,h33,h4,h5,bs,bQ,reduceIte],hM.below⟩
         ·
          refine zq 15 (eE 85 (.bool (!(hasB p.f 1))) (.bool true) (congrArg Value.bool (by rw [h25]; rfl)) ?_)
          refine cU [0,1,0,0] [(b0,1)] (aK 89 (decide ((p.off : Int) > 0)) (fun h35 => ?_) (fun h35 => ?_))
          ·
           have h35d := of_decide_eq_true h35
           refine zq 6 (zn (dF (zQ 1 (zn (aA (aH [2] [(I6 8)] (fun W' hM => ?_)))))))
           exact ⟨by simp only [cG,cV,big,(hc0_0 oW),(hc1_0 oW),(hc2_0 oW),(hc3_0 oW),(hc4_0 oW),h0,h1,h11,h2,h25,h3,h35,h4,h5,bs,bQ,reduceIte],hM.below⟩
          ·
           have h35d := of_decide_eq_false h35
           refine cU [0,1,0,0,0,0] [(b0,1)] (zn (cD (decide ((p.tot : Int) > 0)) (fun h36 => ?_) (fun h36 => ?_)))
           ·
            have h36d := of_decide_eq_true h36
            refine zQ 1 (zn (aA (aH [2] [(I6 8)] (fun W' hM => ?_))))
            exact ⟨by simp only [cG,cV,big,(hc0_0 oW),(hc1_0 oW),(hc2_0 oW),(hc3_0 oW),(hc4_0 oW),h0,h1,h11,h2,h25,h3,h35,h36,h4,h5,bs,bQ,reduceIte],hM.below⟩
           ·
            have h36d := of_decide_eq_false h36
            refine zk (zB [0,0,1,0,0] [(b0,1)] (aK 100 (p.src.s == 1) (fun h37 => ?_) (fun h37 => ?_)))
            ·
             have h37d := eq_of_beq h37
             refine cU [0,0,1] [(b0,1)] (cH (.bool (p.src.l == [110,111,110,101])) (eJ _ _ _ _ rfl p.src.l [110,111,110,101] kR kR) ?_)
             refine zq 2 (zn (zs (zQ 2 (aK 107 (hasB p.f 262144) (fun h38 => ?_) (fun h38 => ?_)))))
             ·
              refine zq 2 (aK 109 (p.src.l == [110,111,110,101]) (fun h39 => ?_) (fun h39 => ?_))
              ·
               have h39d := eq_of_beq h39
               refine zq 14 (zn (dF (zQ 1 (zn (aA (aH [2] [(I6 8)] (fun W' hM => ?_)))))))
               exact ⟨by simp only [cG,cV,big,(hc0_0 oW),(hc1_0 oW),(hc2_0 oW),(hc3_0 oW),(hc4_0 oW),h0,h1,h11,h2,h25,h3,h35,h36,h37,h38,h39,h4,h5,bs,bQ,reduceIte],hM.below⟩
              ·
               have h39d := beq_eq_false_iff_ne.1 h39
               refine cU [0,1] [(b0,1)] (dL (fun W hM => aAq p.f h.f W) (zq 3 (aK 115 (hasB p.f 2) (fun h40 => ?_) (fun h40 => ?_))))
               ·
                refine zq 8 (zn (dF (zQ 1 (zn (aA (aH [2] [(I6 8)] (fun W' hM => ?_)))))))
                exact ⟨by simp only [cG,cV,big,(hc0_0 oW),(hc1_0 oW),(hc2_0 oW),(hc3_0 oW),(hc4_0 oW),h0,h1,h11,h2,h25,h3,h35,h36,h37,h38,h39,h4,h40,h5,bs,bQ,reduceIte],hM.below⟩
               ·
                refine zq 2 (eE 117 (.bool (p.src.l == [110,111,110,101])) (.bool false) (congrArg Value.bool h39) ?_)
                refine zq 6 (zn (dE (zk (zQ 1 (zn (aA (aH [2] [(I6 0)] (fun W' hM => ?_))))))))
                exact ⟨by simp only [cG,cV,big,(hc0_0 oW),(hc1_0 oW),(hc2_0 oW),(hc3_0 oW),(hc4_0 oW),h0,h1,h11,h2,h25,h3,h35,h36,h37,h38,h39,h4,h40,h5,bs,bQ,reduceIte],hM.below⟩
             ·
              refine zq 10 (aK 117 (p.src.l == [110,111,110,101]) (fun h41 => ?_) (fun h41 => ?_))
              ·
               have h41d := eq_of_beq h41
               refine cU [0,1] [(b0,1)] (dL (fun W hM => aF0 p.f h.f W) (zq 3 (zn (cD (!(hasB p.f 4)) (fun h42 => ?_) (fun h42 => ?_)))))
               ·
                refine zQ 1 (zn (aA (aH [2] [(I6 8)] (fun W' hM => ?_))))
                exact ⟨by simp only [cG,cV,big,(hc0_0 oW),(hc1_0 oW),(hc2_0 oW),(hc3_0 oW),(hc4_0 oW),h0,h1,h11,h2,h25,h3,h35,h36,h37,h38,h4,h41,h42,h5,bs,bQ,reduceIte],hM.below⟩
               ·
                refine zk (zQ 1 (zn (aA (aH [2] [(I6 0)] (fun W' hM => ?_)))))
                exact ⟨by simp only [cG,cV,big,(hc0_0 oW),(hc1_0 oW),(hc2_0 oW),(hc3_0 oW),(hc4_0 oW),h0,h1,h11,h2,h25,h3,h35,h36,h37,h38,h4,h41,h42,h5,bs,bQ,reduceIte],hM.below⟩
              ·
               have h41d := beq_eq_false_iff_ne.1 h41
               refine zq 6 (zn (dE (zk (zQ 1 (zn (aA (aH [2] [(I6 0)] (fun W' hM => ?_))))))))
               exact ⟨by simp only [cG,cV,big,(hc0_0 oW),(hc1_0 oW),(hc2_0 oW),(hc3_0 oW),(hc4_0 oW),h0,h1,h11,h2,h25,h3,h35,h36,h37,h38,h4,h41,h5,bs,bQ,reduceIte],hM.below⟩
            ·
             have h37d := beq_eq_false_iff_ne.1 h37
             refine zq 6 (zn (zs (zQ 2 (aK 107 (hasB p.f 262144) (fun h43 => ?_) (fun h43 => ?_)))))
             ·
              refine cU [0,0,0,1] [(b0,1)] (dL (fun W hM => aAq p.f h.f W) (zq 3 (aK 115 (hasB p.f 2) (fun h44 => ?_) (fun h44 => ?_))))
              ·
               refine zq 8 (zn (dF (zQ 1 (zn (aA (aH [2] [(I6 8)] (fun W' hM => ?_)))))))
               exact ⟨by simp only [cG,cV,big,(hc0_0 oW),(hc1_0 oW),(hc2_0 oW),(hc3_0 oW),(hc4_0 oW),h0,h1,h11,h2,h25,h3,h35,h36,h37,h4,h43,h44,h5,bs,bQ,reduceIte],hM.below⟩
              ·
               refine zq 8 (zn (dE (zk (zQ 1 (zn (aA (aH [2] [(I6 0)] (fun W' hM => ?_))))))))
               exact ⟨by simp only [cG,cV,big,(hc0_0 oW),(hc1_0 oW),(hc2_0 oW),(hc3_0 oW),(hc4_0 oW),h0,h1,h11,h2,h25,h3,h35,h36,h37,h4,h43,h44,h5,bs,bQ,reduceIte],hM.below⟩
             ·
              refine zq 16 (zn (dE (zk (zQ 1 (zn (aA (aH [2] [(I6 0)] (fun W' hM => ?_))))))))
              exact ⟨by simp only [cG,cV,big,(hc0_0 oW),(hc1_0 oW),(hc2_0 oW),(hc3_0 oW),(hc4_0 oW),h0,h1,h11,h2,h25,h3,h35,h36,h37,h4,h43,h5,bs,bQ,reduceIte],hM.below⟩
theorem aK2 {e : Ei} (h : aX e = true) : decide (e.s = 1 ∧ e.l = [110, 111, 110, 101] ∧ (e.n : Int) = 0 ∧ (e.v : Int) = 0) = ((e.s == 1) && (e.l == [110, 111, 110, 101])) := by
 rw [Bool.eq_iff_iff]
 simp only [decide_eq_true_eq, Bool.and_eq_true, beq_iff_eq]
 refine ⟨fun h => ⟨h.1, h.2.1⟩, fun ⟨h1, h2⟩ => ⟨h1, h2, ?_⟩⟩
 unfold aX Eid.gM at h
 rw [h1] at h
 simp at h
 omega
theorem aNp (a b : Int) : (a != b) = !(a == b) := rfl
theorem aB6 (p : Pr) (h : p.ok) : cV p = aO p := by
 have h4 : (gC .u64 (p.f : Int) 4 == 0) = !hasB p.f 4 := by rw [← aOi p.f h.f, aNp, Bool.not_not]
 unfold cV aO
 rw [aOj p.f h.f, aOi p.f h.f, aOD p.f h.f, aN9 p.f h.f, h4]
 have ho : ((p.off : Int) != 0) = decide ((p.off : Int) > 0) := by
  rw [Bool.eq_iff_iff]; simp only [bne_iff_ne, ne_eq, decide_eq_true_eq]; omega
 have ht : ((p.tot : Int) != 0) = decide ((p.tot : Int) > 0) := by
  rw [Bool.eq_iff_iff]; simp only [bne_iff_ne, ne_eq, decide_eq_true_eq]; omega
 rw [ho, ht]
 have hr : (!dS p) = ((!aX p.dst || !aX p.src || !aX p.rpt || decide (p.c < 0) || decide (p.c > 2) || decide ((p.f : Int) ≥ 2097152)) || (big p.time || big p.seq || big p.life || big p.off || big p.tot)) := by
  unfold dS
  rw [show decide (p.c < 0) = !decide (p.c ≥ 0) by rw [← decide_not]; congr 1; exact propext oW, show decide (p.c > 2) = !decide (p.c ≤ 2) by rw [← decide_not]; congr 1; exact propext oW,
   show decide ((p.f : Int) ≥ 2097152) = !decide ((p.f : Int) < 2097152) by rw [← decide_not]; congr 1; exact propext oW]
  generalize big p.time = a1
  generalize big p.seq = a2
  generalize big p.life = a3
  generalize big p.off = a4
  generalize big p.tot = a5
  generalize aX p.dst = a6
  generalize aX p.src = a7
  generalize aX p.rpt = a8
  generalize decide (p.c ≥ 0) = a9
  generalize decide (p.c ≤ 2) = a10
  generalize decide ((p.f : Int) < 2097152) = a11
  cases a1 <;> cases a2 <;> cases a3 <;> cases a4 <;> cases a5 <;> try (simp)
  all_goals cases a6 <;> cases a7 <;> cases a8 <;> cases a9 <;> cases a10 <;> cases a11 <;> rfl
 by_cases hA : (!aX p.dst || !aX p.src || !aX p.rpt || decide (p.c < 0) || decide (p.c > 2) || decide ((p.f : Int) ≥ 2097152)) = true
 · rw [if_pos hA, hr, if_pos (by rw [hA]; rfl)]
 rw [if_neg hA]
 have hA' := Bool.eq_false_iff.2 hA
 by_cases hB : (big p.time || big p.seq || big p.life || big p.off || big p.tot) = true
 · rw [if_pos hB, hr, if_pos (by rw [hB, Bool.or_true])]
 have hP : (!dS p) = false := by rw [hr, hA', Bool.eq_false_iff.2 hB]; rfl
 rw [if_neg hB, hP, if_neg (by simp : ¬ (false = true))]
 have hs : aX p.src = true := by
  simp only [Bool.or_eq_false_iff, Bool.not_eq_false'] at hA'
  exact hA'.1.1.1.1.2
 rw [aK2 hs]
 generalize ((p.src.s == 1) && (p.src.l == [110, 111, 110, 101])) = s
 generalize hasB p.f 1 = a
 generalize hasB p.f 2 = b
 generalize hasB p.f 4 = c
 generalize (hasB p.f 16384 || hasB p.f 262144) = d
 generalize decide ((p.off : Int) ≥ (p.tot : Int)) = e
 generalize decide ((p.off : Int) > 0) = f
 generalize decide ((p.tot : Int) > 0) = g
 clear hr hA hA' hB ho ht h4 hs h hP
 revert s a b c d e f g
 decide
def fZ (b : Bk) : Int := if decide (b.t < 1) || decide (b.t > 65535) || decide (b.n < 1) || decide (b.n > 65535) || decide ((b.f : Int) > 255) || decide (b.c < 0) || decide (b.c > 2) then 1 else if decide ((b.d.length : Int) > 4000) then 4 else if ((b.t == 1) && (b.n != 1)) || ((b.t != 1) && (b.n == 1)) then 8 else 0
theorem tX (b : Bk) : fZ b = aG b := by
 unfold fZ aG iC
 rw [show decide (b.t < 1) = !decide (b.t ≥ 1) by rw [← decide_not]; congr 1; exact propext oW, show decide (b.t > 65535) = !decide (b.t ≤ 65535) by rw [← decide_not]; congr 1; exact propext oW,
  show decide (b.n < 1) = !decide (b.n ≥ 1) by rw [← decide_not]; congr 1; exact propext oW, show decide (b.n > 65535) = !decide (b.n ≤ 65535) by rw [← decide_not]; congr 1; exact propext oW,
  show (b.t != 1) = !(b.t == 1) from rfl, show (b.n != 1) = !(b.n == 1) from rfl]
 generalize decide (b.t ≥ 1) = a1
 generalize decide (b.t ≤ 65535) = a2
 generalize decide (b.n ≥ 1) = a3
 generalize decide (b.n ≤ 65535) = a4
 generalize (b.t == 1) = a5
 generalize (b.n == 1) = a6
 cases a1 <;> cases a2 <;> cases a3 <;> cases a4 <;> cases a5 <;> cases a6 <;> simp
theorem rA (b : Bk) (w : World) : CP 72 #[b.V] w (Ret (.int .i64 (fZ b)) w) := by
 refine dK 58 Tryz.func72 ?_
 refine zs (zr (cJ (fun b0 => (zq 1 (zn (zs (zB [0,1,0,0] [(b0,1)] (aK 6 (decide (b.t < 1)) (fun h0 => ?_) (fun h0 => ?_)))))))))
 ·
  refine zq 29 (zn (dF (zQ 1 (zn (aA (aH [2] [(I6 1)] (fun W' hM => ?_)))))))
  exact ⟨by simp only [cG,fZ,h0,bs,bQ,reduceIte],hM.below⟩
 ·
  refine cU [0,1,0,0,0] [(b0,1)] (aK 11 (decide (b.t > 65535)) (fun h1 => ?_) (fun h1 => ?_))
  ·
   refine zq 24 (zn (dF (zQ 1 (zn (aA (aH [2] [(I6 1)] (fun W' hM => ?_)))))))
   exact ⟨by simp only [cG,fZ,h0,h1,bs,bQ,reduceIte],hM.below⟩
  ·
   refine cU [0,1,0,0,0] [(b0,1)] (aK 16 (decide (b.n < 1)) (fun h2 => ?_) (fun h2 => ?_))
   ·
    refine zq 19 (zn (dF (zQ 1 (zn (aA (aH [2] [(I6 1)] (fun W' hM => ?_)))))))
    exact ⟨by simp only [cG,fZ,h0,h1,h2,bs,bQ,reduceIte],hM.below⟩
   ·
    refine cU [0,1,0,0,0] [(b0,1)] (aK 21 (decide (b.n > 65535)) (fun h3 => ?_) (fun h3 => ?_))
    ·
     refine zq 14 (zn (dF (zQ 1 (zn (aA (aH [2] [(I6 1)] (fun W' hM => ?_)))))))
     exact ⟨by simp only [cG,fZ,h0,h1,h2,h3,bs,bQ,reduceIte],hM.below⟩
    ·
     refine cU [0,1,0,0,0] [(b0,1)] (aK 26 (decide ((b.f : Int) > 255)) (fun h4 => ?_) (fun h4 => ?_))
     ·
      refine zq 9 (zn (dF (zQ 1 (zn (aA (aH [2] [(I6 1)] (fun W' hM => ?_)))))))
      exact ⟨by simp only [cG,fZ,h0,h1,h2,h3,h4,bs,bQ,reduceIte],hM.below⟩
     ·
      refine cU [0,1,0,0,0] [(b0,1)] (aK 31 (decide (b.c < 0)) (fun h5 => ?_) (fun h5 => ?_))
      ·
       refine zq 4 (zn (dF (zQ 1 (zn (aA (aH [2] [(I6 1)] (fun W' hM => ?_)))))))
       exact ⟨by simp only [cG,fZ,h0,h1,h2,h3,h4,h5,bs,bQ,reduceIte],hM.below⟩
      ·
       refine cU [0,1,0,0] [(b0,1)] (zn (cD (decide (b.c > 2)) (fun h6 => ?_) (fun h6 => ?_)))
       ·
        refine zQ 1 (zn (aA (aH [2] [(I6 1)] (fun W' hM => ?_))))
        exact ⟨by simp only [cG,fZ,h0,h1,h2,h3,h4,h5,h6,bs,bQ,reduceIte],hM.below⟩
       ·
        refine zk (zs (zB [0,1,0,0] [(b0,1)] (zn (cD (decide ((((b.d).length : Nat) : Int) > 4000)) (fun h7 => ?_) (fun h7 => ?_)))))
        ·
         refine zQ 1 (zn (aA (aH [2] [(I6 4)] (fun W' hM => ?_))))
         exact ⟨by simp only [cG,fZ,h0,h1,h2,h3,h4,h5,h6,h7,bs,bQ,reduceIte],hM.below⟩
        ·
         refine zk (zs (zB [0,1,0,0] [(b0,1)] (aK 43 (b.t == 1) (fun h8 => ?_) (fun h8 => ?_))))
         ·
          refine cU [0,1,0,0,0] [(b0,1)] (aK 48 (b.n != 1) (fun h9 => ?_) (fun h9 => ?_))
          ·
           refine zq 9 (zn (dF (zQ 1 (zn (aA (aH [2] [(I6 8)] (fun W' hM => ?_)))))))
           exact ⟨by simp only [cG,fZ,h0,h1,h2,h3,h4,h5,h6,h7,h8,h9,bs,bQ,reduceIte],hM.below⟩
          ·
           refine cU [0,1,0,0] [(b0,1)] (aK 52 (b.t != 1) (fun h10 => ?_) (fun h10 => ?_))
           ·
            refine cU [0,1,0,0,0] [(b0,1)] (zn (cD (b.n == 1) (fun h11 => ?_) (fun h11 => ?_)))
            ·
             refine zQ 1 (zn (aA (aH [2] [(I6 8)] (fun W' hM => ?_))))
             exact ⟨by simp only [cG,fZ,h0,h1,h10,h11,h2,h3,h4,h5,h6,h7,h8,h9,bs,bQ,reduceIte],hM.below⟩
            ·
             refine zk (zQ 1 (zn (aA (aH [2] [(I6 0)] (fun W' hM => ?_)))))
             exact ⟨by simp only [cG,fZ,h0,h1,h10,h11,h2,h3,h4,h5,h6,h7,h8,h9,bs,bQ,reduceIte],hM.below⟩
           ·
            refine zq 5 (zn (dE (zk (zQ 1 (zn (aA (aH [2] [(I6 0)] (fun W' hM => ?_))))))))
            exact ⟨by simp only [cG,fZ,h0,h1,h10,h2,h3,h4,h5,h6,h7,h8,h9,bs,bQ,reduceIte],hM.below⟩
         ·
          refine cU [0,0,0,0,0,0,1,0,0] [(b0,1)] (aK 52 (b.t != 1) (fun h12 => ?_) (fun h12 => ?_))
          ·
           refine cU [0,1,0,0,0] [(b0,1)] (zn (cD (b.n == 1) (fun h13 => ?_) (fun h13 => ?_)))
           ·
            refine zQ 1 (zn (aA (aH [2] [(I6 8)] (fun W' hM => ?_))))
            exact ⟨by simp only [cG,fZ,h0,h1,h12,h13,h2,h3,h4,h5,h6,h7,h8,bs,bQ,reduceIte],hM.below⟩
           ·
            refine zk (zQ 1 (zn (aA (aH [2] [(I6 0)] (fun W' hM => ?_)))))
            exact ⟨by simp only [cG,fZ,h0,h1,h12,h13,h2,h3,h4,h5,h6,h7,h8,bs,bQ,reduceIte],hM.below⟩
          ·
           refine zq 5 (zn (dE (zk (zQ 1 (zn (aA (aH [2] [(I6 0)] (fun W' hM => ?_))))))))
           exact ⟨by simp only [cG,fZ,h0,h1,h12,h2,h3,h4,h5,h6,h7,h8,bs,bQ,reduceIte],hM.below⟩
theorem iS (b : Bk) (w : World) (hb : b.ok) (hr : aG b = 0) : CP 95 #[b.V] w (Ret (.string (B (aD b))) w) := by
 obtain ⟨g1,g2,g3,g4,g5,g6⟩ := fK hr
 unfold iC at g1 g2
 rw [Bool.and_eq_true,decide_eq_true_eq,decide_eq_true_eq] at g1 g2
 have w1 : IntKind.u64.wrap b.t = (b.t.toNat : Int) := by
  have := u64_in (x := b.t) oW oW
  omega
 have w2 : IntKind.u64.wrap b.n = (b.n.toNat : Int) := by
  have := u64_in (x := b.n) oW oW
  omega
 have l1 := Itm.aW 0 b.t.toNat
 have l2 := Itm.aW 0 b.n.toNat
 have l3 := Itm.aW 0 b.f
 refine dK 16 Tryz.func95 ?_
 refine zs (zr (cJ (fun b0 => (zq 1 (zn (zs ?_))))))
 refine gU 4 [0,3,1,1,0,3,1,1,1,0,3,1] [(b0,1),(b0,1),(b0,1)] [.val (N6 b.t.toNat),.val (St (Itm.aD 0 b.t.toNat)),.val (N6 b.n.toNat),.val (St (Itm.aD 0 b.n.toNat)),.val (St ((Itm.aD 0 b.t.toNat) ++ (Itm.aD 0 b.n.toNat))),.val (St (Itm.aD 0 b.f))] ⟨?_,?_,?_,?_,?_,?_,trivial⟩ ?_
 · exact vE (U6 (IntKind.u64.wrap b.t)) (congrArg (Value.int .u64) w1)
 · exact vC 108 #[(I6 0),(N6 b.t.toNat)] (fun W hM => dO 0 b.t.toNat W oW (by first | exact hb.f | (unfold W64; omega)))
 · exact vE (U6 (IntKind.u64.wrap b.n)) (congrArg (Value.int .u64) w2)
 · exact vC 108 #[(I6 0),(N6 b.n.toNat)] (fun W hM => dO 0 b.n.toNat W oW (by first | exact hb.f | (unfold W64; omega)))
 · exact vR (cE _ _ _ _ rfl (Itm.aD 0 b.t.toNat) (Itm.aD 0 b.n.toNat) kR kR oA)
 · exact vC 108 #[(I6 0),(N6 b.f)] (fun W hM => dO 0 b.f W oW (by first | exact hb.f | (unfold W64; omega)))
 refine cH (St (((Itm.aD 0 b.t.toNat) ++ (Itm.aD 0 b.n.toNat)) ++ (Itm.aD 0 b.f))) (cE _ _ _ _ rfl ((Itm.aD 0 b.t.toNat) ++ (Itm.aD 0 b.n.toNat)) (Itm.aD 0 b.f) kR kR oA) ?_
 refine zq 1 (zn (aA (jJ 2)))
theorem aA8 (e : Ei) (w : World) {U : View} (hU : See U w) (he : e.ok) (hr : aX e = true) : CP 110 #[e.V] w (rO w U (aLC e.tree)) := by
 have hn := he.n
 have hv := he.v
 have hl := he.l
 have hs : e.s = 1 ∨ e.s = 2 := by
  unfold aX Eid.gM at hr
  split at hr
  · exact .inl ‹_›
  ·
   split at hr
   · exact .inr ‹_›
   · cases hr
 have hw : IntKind.u64.wrap e.s = (e.s.toNat : Int) := by
  have := u64_in (x := e.s) oW oW
  omega
 refine eG 29 Tryz.func110 hU ?_
 refine zs (zr (cJ (fun b0 => (cJ (fun b1 => (zn (zQ 1 (cJ (fun b2 => (aY 2 b2 (zn (zs (zB [0,1,0] [(b0,1)] (zn (cD (e.s == 2) (fun h0 => ?_) (fun h0 => ?_))))))))))))))))
 ·
  have h0d := eq_of_beq h0
  refine zr (cU [0,1,0,0,1,0] [(b0,1),(b0,1)] ?_)
  refine gO [(I6 0),(N6 e.n),(St []),S0,(.bool false),(I6 0),(N6 e.v),(St []),S0,(.bool false)] 89 (fun r => (Sl r 0 2 2)) kR kR kR (fun g3 V3 hV3 hR3 => ?_)
  have k5 := (TV.num _ e.n (by first | assumption | decide | (unfold W64; omega))).le hV3
  have k6 := (TV.num _ e.v (by first | assumption | decide | (unfold W64; omega))).le hV3
  have hT3 : fG V3 (some ⟨g3,0,none⟩) [(Itm.cN e.n),(Itm.cN e.v)] := fG.lit [((Itm.cN e.n),(iN e.n)),((Itm.cN e.v),(iN e.v))] hR3 ⟨k5,k6,trivial⟩ (show 2 ≤ R47 by decide)
  refine zq 1 (aY 2 b2 (zn (zB [0,1,0] [(b0,1)] (eE 24 (U6 (IntKind.u64.wrap e.s)) (N6 e.s.toNat) (congrArg (Value.int .u64) hw) ?_))))
  refine cU [0,3] [(b2,5)] ?_
  refine gO [(I6 0),(N6 e.s.toNat),(St []),S0,(.bool false),(I6 4),(U6 0),(St []),(Sl g3 0 2 2),(.bool false)] 89 (fun r => (Sl r 0 2 2)) kR kR kR (fun g7 V7 hV7 hR7 => ?_)
  have k12 := (TV.list 2 hT3).le hV7
  have k13 := (TV.num _ e.s.toNat (by first | assumption | decide | (unfold W64; omega))).le hV7
  have hT7 : fG V7 (some ⟨g7,0,none⟩) [(Itm.cN e.s.toNat),(Itm.dH [(Itm.cN e.n),(Itm.cN e.v)])] := fG.lit [((Itm.cN e.s.toNat),(iN e.s.toNat)),((Itm.dH [(Itm.cN e.n),(Itm.cN e.v)]),[(I6 4),(U6 0),(St []),(Sl g3 0 2 2),(.bool false)])] hR7 ⟨k13,k12,trivial⟩ (show 2 ≤ R47 by decide)
  refine zq 1 (aY 1 b1 (zn (aA (dU [2] [(b1,5)] [(.agg #[(I6 4),(U6 0),(St []),(Sl g7 0 2 2),(.bool false)])] (fun W' hM => ?_)))))
  have hsn : e.s.toNat = 2 := by
   simp only [beq_iff_eq,beq_eq_false_iff_ne] at h0
   omega
  exact cF hM (View.le_trans hV3 hV7) ⟨[(I6 4),(U6 0),(St []),(Sl g7 0 2 2),(.bool false)],rfl,((TV.list 2 hT7)).cast (by simp only [Ei.tree,hsn,h0,bs,bQ,reduceIte])⟩
 ·
  have h0d := beq_eq_false_iff_ne.1 h0
  refine zB [0,1] [(b0,1)] (cH (.bool (!(e.l == [110,111,110,101]))) (mN _ _ _ _ rfl e.l [110,111,110,101] kR kR) ?_)
  refine zn (cD (!(e.l == [110,111,110,101])) (fun h1 => ?_) (fun h1 => ?_))
  ·
   refine zr (cU [0,1,0] [(b0,1)] (aY 2 b2 (zn (zB [0,1,0] [(b0,1)] (eE 24 (U6 (IntKind.u64.wrap e.s)) (N6 e.s.toNat) (congrArg (Value.int .u64) hw) ?_)))))
   refine cU [0,3] [(b2,5)] ?_
   refine gO [(I6 0),(N6 e.s.toNat),(St []),S0,(.bool false),(I6 3),(U6 0),(St e.l),S0,(.bool false)] 89 (fun r => (Sl r 0 2 2)) kR kR kR (fun g14 V14 hV14 hR14 => ?_)
   have k16 := (TV.txt _ e.l (by first | assumption | decide | (unfold R47; omega))).le hV14
   have k17 := (TV.num _ e.s.toNat (by first | assumption | decide | (unfold W64; omega))).le hV14
   have hT14 : fG V14 (some ⟨g14,0,none⟩) [(Itm.cN e.s.toNat),(aHL e.l)] := fG.lit [((Itm.cN e.s.toNat),(iN e.s.toNat)),((aHL e.l),[(I6 3),(U6 0),(St e.l),S0,(.bool false)])] hR14 ⟨k17,k16,trivial⟩ (show 2 ≤ R47 by decide)
   refine zq 1 (aY 1 b1 (zn (aA (dU [2] [(b1,5)] [(.agg #[(I6 4),(U6 0),(St []),(Sl g14 0 2 2),(.bool false)])] (fun W' hM => ?_)))))
   have hsn : e.s.toNat = 1 := by
    simp only [beq_iff_eq,beq_eq_false_iff_ne] at h0
    omega
   exact cF hM hV14 ⟨[(I6 4),(U6 0),(St []),(Sl g14 0 2 2),(.bool false)],rfl,((TV.list 2 hT14)).cast (by simp only [Ei.tree,hsn,h0,show (e.l == [110,111,110,101]) = false from by simpa using h1,bs,bQ,reduceIte])⟩
  ·
   refine zk (zB [0,1,0] [(b0,1)] (eE 24 (U6 (IntKind.u64.wrap e.s)) (N6 e.s.toNat) (congrArg (Value.int .u64) hw) ?_))
   refine cU [0,3] [(b2,5)] ?_
   refine gO [(I6 0),(N6 e.s.toNat),(St []),S0,(.bool false),(I6 0),(U6 0),(St []),S0,(.bool false)] 89 (fun r => (Sl r 0 2 2)) kR kR kR (fun g18 V18 hV18 hR18 => ?_)
   have k19 := (TV.num _ 0 (by first | assumption | decide | (unfold W64; omega))).le hV18
   have k20 := (TV.num _ e.s.toNat (by first | assumption | decide | (unfold W64; omega))).le hV18
   have hT18 : fG V18 (some ⟨g18,0,none⟩) [(Itm.cN e.s.toNat),(Itm.cN 0)] := fG.lit [((Itm.cN e.s.toNat),(iN e.s.toNat)),((Itm.cN 0),[(I6 0),(U6 0),(St []),S0,(.bool false)])] hR18 ⟨k20,k19,trivial⟩ (show 2 ≤ R47 by decide)
   refine zq 1 (aY 1 b1 (zn (aA (dU [2] [(b1,5)] [(.agg #[(I6 4),(U6 0),(St []),(Sl g18 0 2 2),(.bool false)])] (fun W' hM => ?_)))))
   have hsn : e.s.toNat = 1 := by
    simp only [beq_iff_eq,beq_eq_false_iff_ne] at h0
    omega
   exact cF hM hV18 ⟨[(I6 4),(U6 0),(St []),(Sl g18 0 2 2),(.bool false)],rfl,((TV.list 2 hT18)).cast (by simp only [Ei.tree,hsn,h0,show (e.l == [110,111,110,101]) = true from by simpa using h1,bs,bQ,reduceIte])⟩
def aLv (f : Nat) (k : Int) : Int := if hasB f 1 then (if (k == 1) || (k == 2) then 11 else 10) else if (k == 1) || (k == 2) then 9 else 8
theorem aGX (f : Nat) (k : Int) (hf : f < W64) (w : World) : CP 205 #[.int .u64 (f : Int), .int .u64 k] w (Ret (.int .i64 (aLv f k)) w) := by
 refine dK 19 Tryz.func205 ?_
 refine zQ 1 (zn (zQ 1 (zn (zs (zQ 1 (dL (fun W hM => aII f hf W) (zn (cD (hasB f 1) (fun h0 => ?_) (fun h0 => ?_)))))))))
 ·
  refine zr (zq 3 (zn (zs (zQ 3 (aK 12 (k == 1) (fun h1 => ?_) (fun h1 => ?_))))))
  ·
   refine zq 3 (zn (dF (zr (zq 3 (zn (zQ 2 (zn (aA (aH [4] [(I6 11)] (fun W' hM => ?_))))))))))
   exact ⟨by simp only [cG,aLv,h0,h1,bs,bQ,reduceIte],hM.below⟩
  ·
   refine zq 3 (zn (cD (k == 2) (fun h2 => ?_) (fun h2 => ?_)))
   ·
    refine zr (zq 3 (zn (zQ 2 (zn (aA (aH [4] [(I6 11)] (fun W' hM => ?_)))))))
    exact ⟨by simp only [cG,aLv,h0,h1,h2,bs,bQ,reduceIte],hM.below⟩
   ·
    refine zk (zQ 2 (zn (aA (aH [4] [(I6 10)] (fun W' hM => ?_)))))
    exact ⟨by simp only [cG,aLv,h0,h1,h2,bs,bQ,reduceIte],hM.below⟩
 ·
  refine zk (zs (zQ 3 (aK 12 (k == 1) (fun h3 => ?_) (fun h3 => ?_))))
  ·
   refine zq 3 (zn (dF (zr (zq 3 (zn (zQ 2 (zn (aA (aH [4] [(I6 9)] (fun W' hM => ?_))))))))))
   exact ⟨by simp only [cG,aLv,h0,h3,bs,bQ,reduceIte],hM.below⟩
  ·
   refine zq 3 (zn (cD (k == 2) (fun h4 => ?_) (fun h4 => ?_)))
   ·
    refine zr (zq 3 (zn (zQ 2 (zn (aA (aH [4] [(I6 9)] (fun W' hM => ?_)))))))
    exact ⟨by simp only [cG,aLv,h0,h3,h4,bs,bQ,reduceIte],hM.below⟩
   ·
    refine zk (zQ 2 (zn (aA (aH [4] [(I6 8)] (fun W' hM => ?_)))))
    exact ⟨by simp only [cG,aLv,h0,h3,h4,bs,bQ,reduceIte],hM.below⟩
theorem aIE (b : List UInt8) (w : World) : CP 159 #[.int .i64 0, .string (B b)] w (Ret (.string (B [])) w) := by
 refine dK 39 Tryz.func159 ?_
 refine zQ 1 (zn (zs (zQ 2 (zn (dE (zk (zs (zQ 2 (zn (dE (zk (zQ 1 (zn (aA (jJ 4)))))))))))))))
def cn0 (f : Nat) : Nat := if hasB f 1 then 10 else 8
theorem aNA (f : Nat) : cn0 f ≤ 10 := by unfold cn0; split <;> omega
theorem aE9 (f : Nat) (hf : f < W64) (w : World) : CP 205 #[.int .u64 (f : Int), .int .u64 0] w (Ret (.int .i64 ((cn0 f : Nat) : Int)) w) := by
 have h := aGX f 0 hf w
 rwa [show aLv f 0 = ((cn0 f : Nat) : Int) by unfold aLv cn0; cases hasB f 1 <;> rfl] at h
def rpB (p : Pr) : List UInt8 := ((((Itm.aD 4 (cn0 p.f) ++ Itm.aD 0 7) ++ Itm.aD 0 p.f) ++ Itm.aD 0 0) ++ ((Itm.aE p.dst.tree ++ Itm.aE p.src.tree) ++ Itm.aE p.rpt.tree)) ++ (((Itm.aD 4 2 ++ Itm.aD 0 p.time) ++ Itm.aD 0 p.seq) ++ Itm.aD 0 p.life) ++ (if hasB p.f 1 then Itm.aD 0 p.off ++ Itm.aD 0 p.tot else [])
theorem aA3 (p : Pr) (w : World) (hp : p.ok) (hd : aX p.dst = true) (hs : aX p.src = true) (ht : aX p.rpt = true) : CP 160 #[p.V, .int .u64 0, .string (B [])] w (Ret (.string (B (rpB p))) w) := by
 have hf := hp.f
 have i1 := hp.time
 have i2 := hp.seq
 have i3 := hp.life
 have i4 := hp.off
 have i5 := hp.tot
 have hc := aNA p.f
 have l0 := Itm.aW 4 (cn0 p.f)
 have l1 := Itm.aW 0 7
 have l2 := Itm.aW 0 p.f
 have l3 := Itm.aW 0 0
 have l4 := Itm.aW 4 2
 have l5 := Itm.aW 0 p.time
 have l6 := Itm.aW 0 p.seq
 have l7 := Itm.aW 0 p.life
 have l8 := Itm.aW 0 p.off
 have l9 := Itm.aW 0 p.tot
 have t1 := Itm.eM p.dst.tree
 have t2 := Itm.eM p.src.tree
 have t3 := Itm.eM p.rpt.tree
 have s1 := tP hd
 have s2 := tP hs
 have s3 := tP ht
 refine dK 77 Tryz.func160 ?_
 refine zs (zr (cJ (fun b0 => (zq 1 (zn (zs ?_))))))
 refine gU 5 [0,3,0,1,1,1,1,1,0,3,1,1,0,1] [(b0,1),(b0,1)] [.val (L6 (cn0 p.f)),.val (N6 (cn0 p.f : Nat)),.val (St (Itm.aD 4 (cn0 p.f))),.val (St (Itm.aD 0 7)),.val (St ((Itm.aD 4 (cn0 p.f)) ++ (Itm.aD 0 7))),.val (St (Itm.aD 0 p.f)),.val (St (((Itm.aD 4 (cn0 p.f)) ++ (Itm.aD 0 7)) ++ (Itm.aD 0 p.f))),.val (St (Itm.aD 0 0))] ⟨?_,?_,?_,?_,?_,?_,?_,?_,trivial⟩ ?_
 · exact vC 205 #[(N6 p.f),(U6 0)] (fun W hM => aE9 p.f hf W)
 · exact vE (U6 (IntKind.u64.wrap ((cn0 p.f : Nat) : Int))) (congrArg (Value.int .u64) (u64_in oW oW))
 · exact vC 108 #[(I6 4),(N6 (cn0 p.f : Nat))] (fun W hM => dO 4 (cn0 p.f) W oW (by first | assumption | (unfold W64; omega) | decide))
 · exact vC 108 #[(I6 0),(U6 7)] (fun W hM => dO 0 7 W oW (by first | assumption | (unfold W64; omega) | decide))
 · exact vR (cE _ _ _ _ rfl (Itm.aD 4 (cn0 p.f)) (Itm.aD 0 7) kR kR oA)
 · exact vC 108 #[(I6 0),(N6 p.f)] (fun W hM => dO 0 p.f W oW (by first | assumption | (unfold W64; omega) | decide))
 · exact vR (cE _ _ _ _ rfl ((Itm.aD 4 (cn0 p.f)) ++ (Itm.aD 0 7)) (Itm.aD 0 p.f) kR kR oA)
 · exact vC 108 #[(I6 0),(U6 0)] (fun W hM => dO 0 0 W oW (by first | assumption | (unfold W64; omega) | decide))
 refine cH (St ((((Itm.aD 4 (cn0 p.f)) ++ (Itm.aD 0 7)) ++ (Itm.aD 0 p.f)) ++ (Itm.aD 0 0))) (cE _ _ _ _ rfl (((Itm.aD 4 (cn0 p.f)) ++ (Itm.aD 0 7)) ++ (Itm.aD 0 p.f)) (Itm.aD 0 0) kR kR oA) ?_
 refine zq 1 (zn (zs ?_))
 refine aBM 5 [0,0,3,1,1,0,3,1,1,1,0,3,1,1,1] [(b0,4),(b0,4),(b0,4)] [.mem (aLC p.dst.tree),.val (St (Itm.aE p.dst.tree)),.mem (aLC p.src.tree),.val (St (Itm.aE p.src.tree)),.val (St ((Itm.aE p.dst.tree) ++ (Itm.aE p.src.tree))),.mem (aLC p.rpt.tree),.val (St (Itm.aE p.rpt.tree)),.val (St (((Itm.aE p.dst.tree) ++ (Itm.aE p.src.tree)) ++ (Itm.aE p.rpt.tree)))] (by simp only [List.forall_mem_cons]; exact ⟨by intro v V V2 hV2 hP; (first | trivial | exact PhiMono.go hP hV2 | (obtain ⟨g,e,hP⟩ := hP; exact ⟨g,e,hP.le hV2⟩)),trivial,by intro v V V2 hV2 hP; (first | trivial | exact PhiMono.go hP hV2 | (obtain ⟨g,e,hP⟩ := hP; exact ⟨g,e,hP.le hV2⟩)),trivial,trivial,by intro v V V2 hV2 hP; (first | trivial | exact PhiMono.go hP hV2 | (obtain ⟨g,e,hP⟩ := hP; exact ⟨g,e,hP.le hV2⟩)),trivial,trivial,fun _ h => by cases h⟩) ⟨?_,?_,?_,?_,?_,?_,?_,?_,trivial⟩ ?_
 ·
  refine wM 110 (fun u => #[(.agg #[(I6 p.dst.s),(St p.dst.l),(N6 p.dst.n),(N6 p.dst.v)])]) fun u V hV hdq W hW => ?_
  exact aA8 p.dst W hW hp.dst hd
 ·
  refine wV 109 (fun u => #[u 3]) fun u V hV hdq W hW => ?_
  have e3 := hdq 3 kR rfl
  obtain ⟨cs3,q3,ht3⟩ := e3
  obtain ⟨a3,c3,rfl,hts3,hn3,hs3,hl3⟩ := ht3.form
  rw [q3]
  exact oI 8 _ _ hW ht3 (lD _ 5) (by unfold aAT; omega)
 ·
  refine wM 110 (fun u => #[(.agg #[(I6 p.src.s),(St p.src.l),(N6 p.src.n),(N6 p.src.v)])]) fun u V hV hdq W hW => ?_
  exact aA8 p.src W hW hp.src hs
 ·
  refine wV 109 (fun u => #[u 7]) fun u V hV hdq W hW => ?_
  have e7 := hdq 7 kR rfl
  obtain ⟨cs7,q7,ht7⟩ := e7
  obtain ⟨a7,c7,rfl,hts7,hn7,hs7,hl7⟩ := ht7.form
  rw [q7]
  exact oI 8 _ _ hW ht7 (lD _ 5) (by unfold aAT; omega)
 · exact wR (fun u => cE _ _ _ _ rfl (Itm.aE p.dst.tree) (Itm.aE p.src.tree) kR kR oA)
 ·
  refine wM 110 (fun u => #[(.agg #[(I6 p.rpt.s),(St p.rpt.l),(N6 p.rpt.n),(N6 p.rpt.v)])]) fun u V hV hdq W hW => ?_
  exact aA8 p.rpt W hW hp.rpt ht
 ·
  refine wV 109 (fun u => #[u 12]) fun u V hV hdq W hW => ?_
  have e12 := hdq 12 kR rfl
  obtain ⟨cs12,q12,ht12⟩ := e12
  obtain ⟨a12,c12,rfl,hts12,hn12,hs12,hl12⟩ := ht12.form
  rw [q12]
  exact oI 8 _ _ hW ht12 (lD _ 5) (by unfold aAT; omega)
 · exact wR (fun u => cE _ _ _ _ rfl ((Itm.aE p.dst.tree) ++ (Itm.aE p.src.tree)) (Itm.aE p.rpt.tree) kR kR oA)
 intro u1 V1 hV1 hdq1
 refine cH (St (((((Itm.aD 4 (cn0 p.f)) ++ (Itm.aD 0 7)) ++ (Itm.aD 0 p.f)) ++ (Itm.aD 0 0)) ++ (((Itm.aE p.dst.tree) ++ (Itm.aE p.src.tree)) ++ (Itm.aE p.rpt.tree)))) (cE _ _ _ _ rfl ((((Itm.aD 4 (cn0 p.f)) ++ (Itm.aD 0 7)) ++ (Itm.aD 0 p.f)) ++ (Itm.aD 0 0)) (((Itm.aE p.dst.tree) ++ (Itm.aE p.src.tree)) ++ (Itm.aE p.rpt.tree)) kR kR oA) ?_
 refine zq 1 (zn (zs ?_))
 refine gU 5 [0,1,0,3,1,1,0,3,1,1,0,3,1,1] [(b0,1),(b0,1),(b0,1)] [.val (St (Itm.aD 4 2)),.val (St (Itm.aD 0 p.time)),.val (St ((Itm.aD 4 2) ++ (Itm.aD 0 p.time))),.val (St (Itm.aD 0 p.seq)),.val (St (((Itm.aD 4 2) ++ (Itm.aD 0 p.time)) ++ (Itm.aD 0 p.seq))),.val (St (Itm.aD 0 p.life)),.val (St ((((Itm.aD 4 2) ++ (Itm.aD 0 p.time)) ++ (Itm.aD 0 p.seq)) ++ (Itm.aD 0 p.life)))] ⟨?_,?_,?_,?_,?_,?_,?_,trivial⟩ ?_
 · exact vC 108 #[(I6 4),(U6 2)] (fun W hM => dO 4 2 W oW (by first | assumption | (unfold W64; omega) | decide))
 · exact vC 108 #[(I6 0),(N6 p.time)] (fun W hM => dO 0 p.time W oW (by first | assumption | (unfold W64; omega) | decide))
 · exact vR (cE _ _ _ _ rfl (Itm.aD 4 2) (Itm.aD 0 p.time) kR kR oA)
 · exact vC 108 #[(I6 0),(N6 p.seq)] (fun W hM => dO 0 p.seq W oW (by first | assumption | (unfold W64; omega) | decide))
 · exact vR (cE _ _ _ _ rfl ((Itm.aD 4 2) ++ (Itm.aD 0 p.time)) (Itm.aD 0 p.seq) kR kR oA)
 · exact vC 108 #[(I6 0),(N6 p.life)] (fun W hM => dO 0 p.life W oW (by first | assumption | (unfold W64; omega) | decide))
 · exact vR (cE _ _ _ _ rfl (((Itm.aD 4 2) ++ (Itm.aD 0 p.time)) ++ (Itm.aD 0 p.seq)) (Itm.aD 0 p.life) kR kR oA)
 refine cH (St ((((((Itm.aD 4 (cn0 p.f)) ++ (Itm.aD 0 7)) ++ (Itm.aD 0 p.f)) ++ (Itm.aD 0 0)) ++ (((Itm.aE p.dst.tree) ++ (Itm.aE p.src.tree)) ++ (Itm.aE p.rpt.tree))) ++ ((((Itm.aD 4 2) ++ (Itm.aD 0 p.time)) ++ (Itm.aD 0 p.seq)) ++ (Itm.aD 0 p.life)))) (cE _ _ _ _ rfl (((((Itm.aD 4 (cn0 p.f)) ++ (Itm.aD 0 7)) ++ (Itm.aD 0 p.f)) ++ (Itm.aD 0 0)) ++ (((Itm.aE p.dst.tree) ++ (Itm.aE p.src.tree)) ++ (Itm.aE p.rpt.tree))) ((((Itm.aD 4 2) ++ (Itm.aD 0 p.time)) ++ (Itm.aD 0 p.seq)) ++ (Itm.aD 0 p.life)) kR kR oA) ?_
 refine zq 1 (zn (zs (zB [0,1] [(b0,1)] (dL (fun W hM => aII p.f hf W) (zn (cD (hasB p.f 1) (fun h0 => ?_) (fun h0 => ?_)))))))
 ·
  refine gU 3 [0,0,3,1,0,3,1,1] [(b0,1),(b0,1)] [.val (St (Itm.aD 0 p.off)),.val (St (Itm.aD 0 p.tot)),.val (St ((Itm.aD 0 p.off) ++ (Itm.aD 0 p.tot)))] ⟨?_,?_,?_,trivial⟩ ?_
  · exact vC 108 #[(I6 0),(N6 p.off)] (fun W hM => dO 0 p.off W oW (by first | assumption | (unfold W64; omega) | decide))
  · exact vC 108 #[(I6 0),(N6 p.tot)] (fun W hM => dO 0 p.tot W oW (by first | assumption | (unfold W64; omega) | decide))
  · exact vR (cE _ _ _ _ rfl (Itm.aD 0 p.off) (Itm.aD 0 p.tot) kR kR oA)
  refine cH (St (((((((Itm.aD 4 (cn0 p.f)) ++ (Itm.aD 0 7)) ++ (Itm.aD 0 p.f)) ++ (Itm.aD 0 0)) ++ (((Itm.aE p.dst.tree) ++ (Itm.aE p.src.tree)) ++ (Itm.aE p.rpt.tree))) ++ ((((Itm.aD 4 2) ++ (Itm.aD 0 p.time)) ++ (Itm.aD 0 p.seq)) ++ (Itm.aD 0 p.life))) ++ ((Itm.aD 0 p.off) ++ (Itm.aD 0 p.tot)))) (cE _ _ _ _ rfl ((((((Itm.aD 4 (cn0 p.f)) ++ (Itm.aD 0 7)) ++ (Itm.aD 0 p.f)) ++ (Itm.aD 0 0)) ++ (((Itm.aE p.dst.tree) ++ (Itm.aE p.src.tree)) ++ (Itm.aE p.rpt.tree))) ++ ((((Itm.aD 4 2) ++ (Itm.aD 0 p.time)) ++ (Itm.aD 0 p.seq)) ++ (Itm.aD 0 p.life))) ((Itm.aD 0 p.off) ++ (Itm.aD 0 p.tot)) kR kR oA) ?_
  refine zq 1 (zn (zs (zQ 6 (zn (dE (zk (zQ 2 (zn (aA (aH [6] [(St (((((((Itm.aD 4 (cn0 p.f)) ++ (Itm.aD 0 7)) ++ (Itm.aD 0 p.f)) ++ (Itm.aD 0 0)) ++ (((Itm.aE p.dst.tree) ++ (Itm.aE p.src.tree)) ++ (Itm.aE p.rpt.tree))) ++ ((((Itm.aD 4 2) ++ (Itm.aD 0 p.time)) ++ (Itm.aD 0 p.seq)) ++ (Itm.aD 0 p.life))) ++ ((Itm.aD 0 p.off) ++ (Itm.aD 0 p.tot))))] (fun W' hM => ?_)))))))))))
  exact ⟨by simp only [cG,rpB,List.append_nil,h0,bs,bQ,reduceIte],hM.below⟩
 ·
  refine zk (zs (zQ 6 (zn (dE (zk (zQ 2 (zn (aA (aH [6] [(St ((((((Itm.aD 4 (cn0 p.f)) ++ (Itm.aD 0 7)) ++ (Itm.aD 0 p.f)) ++ (Itm.aD 0 0)) ++ (((Itm.aE p.dst.tree) ++ (Itm.aE p.src.tree)) ++ (Itm.aE p.rpt.tree))) ++ ((((Itm.aD 4 2) ++ (Itm.aD 0 p.time)) ++ (Itm.aD 0 p.seq)) ++ (Itm.aD 0 p.life))))] (fun W' hM => ?_))))))))))
  exact ⟨by simp only [cG,rpB,List.append_nil,h0,bs,bQ,reduceIte],hM.below⟩
theorem aDF (p : Pr) (w : World) (hp : p.ok) (hd : aX p.dst = true) (hs : aX p.src = true) (ht : aX p.rpt = true) : CP 117 #[.agg #[(.int .u64 (p.f : Int)), (.int .i64 0), (.int .i64 p.dst.s), (.string (B p.dst.l)), (.int .u64 (p.dst.n : Int)), (.int .u64 (p.dst.v : Int)), (.int .i64 p.src.s), (.string (B p.src.l)), (.int .u64 (p.src.n : Int)), (.int .u64 (p.src.v : Int)), (.int .i64 p.rpt.s), (.string (B p.rpt.l)), (.int .u64 (p.rpt.n : Int)), (.int .u64 (p.rpt.v : Int)), (.int .u64 (p.time : Int)), (.int .u64 (p.seq : Int)), (.int .u64 (p.life : Int)), (.int .u64 (p.off : Int)), (.int .u64 (p.tot : Int))]] w (Ret (.string (B (rpB p))) w) := by
 refine dK 23 Tryz.func117 ?_
 refine zs (zr (cJ (fun b0 => (zq 1 (zn (zs ?_))))))
 refine gU 5 [0,3,3,0,3,0,0,3,0,1,1,1] [(b0,1),(b0,19),(b0,1),(b0,1)] [.blk (fun r => (Sl r 0 0 0)) (oK [] 5),.val (St []),.val (St (rpB p))] ⟨?_,?_,?_,trivial⟩ ?_
 · exact vN
 · exact vB 9 0 13 (fun r => (Sl r 0 0 0)) [] 5
 · exact vC 160 #[(.agg #[(N6 p.f),(I6 0),(I6 p.dst.s),(St p.dst.l),(N6 p.dst.n),(N6 p.dst.v),(I6 p.src.s),(St p.src.l),(N6 p.src.n),(N6 p.src.v),(I6 p.rpt.s),(St p.rpt.l),(N6 p.rpt.n),(N6 p.rpt.v),(N6 p.time),(N6 p.seq),(N6 p.life),(N6 p.off),(N6 p.tot)]),(U6 0),(St [])] (fun W hM => aA3 p.bare W ⟨hp.f,hp.dst,hp.src,hp.rpt,hp.time,hp.seq,hp.life,hp.off,hp.tot⟩ hd hs ht)
 refine dA 159 #[(I6 0),(St (rpB p))] (St []) (fun W hM => aIE _ W) ?_
 refine zq 1 (zn (zB [1,0,1,0,0] [(b0,19),(b0,1)] (dL (fun W hM => aA3 p.bare W ⟨hp.f,hp.dst,hp.src,hp.rpt,hp.time,hp.seq,hp.life,hp.off,hp.tot⟩ hd hs ht) (zq 1 (zn (aA (jJ 2)))))))
theorem aGU (p : Pr) (w : World) (hp : p.ok) (hd : aX p.dst = true) (hs : aX p.src = true) (ht : aX p.rpt = true) : CP 93 #[p.V] w (Ret (.string (B (rpB p))) w) := by
 refine dK 6 Tryz.func93 ?_
 refine zs (zr (cJ (fun b0 => (zq 1 (zn (zQ 1 (aY 0 b0 (zn (zB [1] [(b0,19)] (dL (fun W hM => aDF p W hp hd hs ht) (zq 1 (zn (aA (jJ 2))))))))))))))
theorem aCD (l : List Itm.Tr) : Itm.aE (Itm.dH l) = Itm.aD 4 l.length ++ Itm.dG l := by
 rw [Itm.dH, Itm.aE]
 simp
theorem aHu (n : Nat) : Itm.aE (Itm.cN n) = Itm.aD 0 n := by
 rw [Itm.cN, Itm.aE]
 simp
theorem aNb (p : Pr) (h : p.ok) : rpB p = dB p.bare := by
 have e1 : p.bare.tree = Itm.dH (gQ p.bare []) := rfl
 have e2 : aBt p.bare.f = hasB p.f 1 := aOj p.f h.f
 unfold dB
 rw [e1, aCD]
 unfold gQ rpB cn0
 rw [e2]
 cases hasB p.f 1
 all_goals simp only [if_true, if_false, Bool.false_eq_true, List.append_nil, List.cons_append, List.nil_append, List.length_cons, List.length_nil, Itm.dG, aHu, aCD, List.append_assoc, Pr.bare, show ((0 : Int) != 0) = false from rfl, Int.toNat_zero]
theorem cX.to0 {U : View} {a : Option Addr} {l : List Bk} (h : cX U a l) : lQ U a l := ⟨h.at_, fun x hx => (h.ok x hx).f, by have := h.len; unfold R47 at this; unfold maxLen; omega⟩
theorem aIo {scope : Int} (h0 : 0 ≤ scope) (h7 : scope ≤ 7) : scope = 0 ∨ scope = 1 ∨ scope = 2 ∨ scope = 3 ∨ scope = 4 ∨ scope = 5 ∨ scope = 6 ∨ scope = 7 := by omega
theorem aOg {scope : Int} (h0 : 0 ≤ scope) (h7 : scope ≤ 7) : IntKind.i64.wrap ((scope).tdiv 2) = scope / 2 := by rcases aIo h0 h7 with rfl | rfl | rfl | rfl | rfl | rfl | rfl | rfl <;> decide
theorem aNW {scope : Int} (h0 : 0 ≤ scope) (h7 : scope ≤ 7) : IntKind.i64.wrap ((scope).tdiv 4) = scope / 4 := by rcases aIo h0 h7 with rfl | rfl | rfl | rfl | rfl | rfl | rfl | rfl <;> decide
theorem pZ (A H S : List UInt8) {target scope : Int} (ht : (target != 0) = true) (h0 : 0 ≤ scope) (h7 : scope ≤ 7) : aCF A H S target scope = (([UInt8.ofNat (IntKind.u8.wrap scope).toNat] ++ (if ((scope).tmod 2) == 1 then A else [])) ++ (if (((scope / 2)).tmod 2) == 1 then H else [])) ++ (if (scope / 4) == 1 then S else []) := by
 unfold aCF
 rw [ht]
 rcases aIo h0 h7 with rfl | rfl | rfl | rfl | rfl | rfl | rfl | rfl <;> rfl
def aAH (p : Pr) (l : List Bk) (target : Int) (sec : Bk) (scope : Int) : List UInt8 := if bsZ p l target sec scope != 0 then [] else Itm.aD 2 (aJ l target).1.d.length ++ (aJ l target).1.d
theorem aE2 (p : Pr) (l : List Bk) (a : Option Addr) (c : Nat) (target : Int) (sec : Bk) (scope : Int) (i : Nat) (w : World) {U : View} (hU : See U w) (hp : p.ok) (hl : cX U a l) (hs : sec.ok)
    (ht : (target != 0) = true) (hi : gH l target = (i : Int)) (hlt : i < l.length) (hs0 : 0 ≤ scope) (hs7 : scope ≤ 7) :
    CP 45 #[bnV p a l.length c, .int .i64 target, sec.V, .int .i64 scope] w (Ret (.tuple #[.string (B (bsB p l target sec scope)), .string (B (aAH p l target sec scope)), .int .i64 (bsZ p l target sec scope)]) w) := by
 have hHs := jG sec
 have hmay : aFm scope = true := by unfold aFm; rw [decide_eq_true oW,decide_eq_true oW]; rfl
 have ht0 : (target == 0) = false := by simpa using ht
 obtain ⟨yy,hyy⟩ : ∃ y,l[i]? = some y := ⟨l[i],List.getElem?_eq_getElem hlt⟩
 have hg0 : aJ l target = (yy,true) := sV (by rw [hi]; omega) (by rw [hi,Int.toNat_natCast]; exact hyy)
 refine eG 97 Tryz.func45 hU ?_
 refine zs (zr (cJ (fun b0 => (cJ (fun b1 => (zq 3 (zn (zs (zQ 3 (eE 19 (.bool (decide (scope < 0))) (.bool false) (congrArg Value.bool (decide_eq_false oW)) ?_))))))))))
 refine zq 3 (zn (eS (decide (scope > 7)) (decide_eq_false oW) ?_))
 refine zk (zB [1,0] [(b0,20)] (dA 9 #[(bnV p a l.length c),(I6 target)] (I6 (i : Int)) (fun W hM => hi ▸ lM p l _ _ target W hM.view (hl).to0) ?_))
 refine zq 1 (zn (zs (zQ 3 (eE 28 (.bool (target != 0)) (.bool true) (congrArg Value.bool ht) ?_))))
 refine zq 3 (zn (eS (decide ((i : Int) < 0)) (decide_eq_false oW) ?_))
 refine zk (zs (zB [0,1] [(b0,19)] (dA 71 #[(p.V)] (I6 (aO p)) (fun W hM => (aB6 p hp) ▸ aA2 p W hp) ?_)))
 refine zq 1 (zn (zQ 2 (zn (cD ((aO p) != 0) (fun h0 => ?_) (fun h0 => ?_)))))
 ·
  refine zQ 4 (zn (aA (aH [8,9,10] [(St []),(St []),(I6 (aO p))] (fun W' hM => ?_))))
  have hz : bsZ p l target sec scope = (aO p) := by simp only [bsZ,rdZ,hmay,ht,ht0,h0,hg0,bs,bQ,reduceIte,bne_self_eq_false]
  have hb : bsB p l target sec scope = [] := by simp only [bsB,hz,h0,bs,bQ,reduceIte,bne_self_eq_false,rdA,rdH,rdS,ht,ht0,hg0,List.append_nil]; try rfl
  have ho : aAH p l target sec scope = [] := by simp only [aAH,hz,h0,bs,bQ,reduceIte,bne_self_eq_false,hg0]; try rfl
  exact ⟨by rw [hz,hb,ho]; rfl,hM.below⟩
 ·
  have h0d := bne_eq_false_iff_eq.1 h0
  refine zk (zs (zQ 2 (zn (gP (target != 0) ht ?_))))
  refine zB [0,1,0] [(b0,1)] ?_
  obtain ⟨y2,hy2⟩ : ∃ y,(l)[i]? = some y := ⟨(l)[i]'oW,List.getElem?_eq_getElem _⟩
  obtain ⟨b2,f2,rfl,hU2⟩ := hl.at_ i y2 hy2
  have hHy2 := jG y2
  have hqy2 : y2 = yy := by rw [hy2] at hyy; exact Option.some.inj hyy
  try rw [← hqy2] at hg0
  refine cH (Pt b2 (f2 + i * 5)) (rIx 38 rfl b2 f2 l.length c i 5) ?_
  refine zU b2 (f2 + i * 5) y2.cs hU2 38 (.tmp 43) _ Tryz.underlying38 rfl ?_
  refine dA 72 #[(y2.V)] (I6 (aG y2)) (fun W hM => (tX y2) ▸ rA y2 W) ?_
  refine zq 1 (zn (zQ 2 (zn (cD ((aG y2) != 0) (fun h1 => ?_) (fun h1 => ?_)))))
  ·
   have h1d := bne_iff_ne.1 h1
   refine zQ 4 (zn (aA (aH [8,9,10] [(St []),(St []),(I6 (aG y2))] (fun W' hM => ?_))))
   have hz0 : (aO p) = 0 := by simpa using h0
   have hz : bsZ p l target sec scope = (aG y2) := by simp only [bsZ,rdZ,hmay,ht,ht0,h0,h1,hg0,hz0,bs,bQ,reduceIte,bne_self_eq_false]
   have hb : bsB p l target sec scope = [] := by simp only [bsB,hz,h0,h1,hz0,bs,bQ,reduceIte,bne_self_eq_false,rdA,rdH,rdS,ht,ht0,hg0,List.append_nil]; try rfl
   have ho : aAH p l target sec scope = [] := by simp only [aAH,hz,h0,h1,bs,bQ,reduceIte,bne_self_eq_false,hg0]; try rfl
   exact ⟨by rw [hz,hb,ho]; rfl,hM.below⟩
  ·
   have h1d := bne_eq_false_iff_eq.1 h1
   refine zk (zs (zB [2] [(b1,5)] (dA 72 #[(sec.V)] (I6 (aG sec)) (fun W hM => (tX sec) ▸ rA sec W) ?_)))
   refine zq 1 (zn (zQ 2 (zn (cD ((aG sec) != 0) (fun h2 => ?_) (fun h2 => ?_)))))
   ·
    have h2d := bne_iff_ne.1 h2
    refine zQ 4 (zn (aA (aH [8,9,10] [(St []),(St []),(I6 (aG sec))] (fun W' hM => ?_))))
    have hz0 : (aO p) = 0 := by simpa using h0
    have hz1 : (aG y2) = 0 := by simpa using h1
    have hz : bsZ p l target sec scope = (aG sec) := by simp only [bsZ,rdZ,hmay,ht,ht0,h0,h1,h2,hg0,hz0,hz1,bs,bQ,reduceIte,bne_self_eq_false]
    have hb : bsB p l target sec scope = [] := by simp only [bsB,hz,h0,h1,h2,hz0,hz1,bs,bQ,reduceIte,bne_self_eq_false,rdA,rdH,rdS,ht,ht0,hg0,List.append_nil]; try rfl
    have ho : aAH p l target sec scope = [] := by simp only [aAH,hz,h0,h1,h2,bs,bQ,reduceIte,bne_self_eq_false,hg0]; try rfl
    exact ⟨by rw [hz,hb,ho]; rfl,hM.below⟩
   ·
    have h2d := bne_eq_false_iff_eq.1 h2
    refine zk (zQ 2 (cJ (fun b3 => (cU [3,0] [(b3,1)] (zn (zB [0,1] [(b0,19)] ?_))))))
    have hA := rD (aAg (p := p) (by simpa using h0))
    refine dA 93 #[(p.V)] (St (dB p.bare)) (fun W hM => (aNb p hp) ▸ (aGU p W hp (fS (fH (by simpa using h0))).1 (fS (fH (by simpa using h0))).2.1 (fS (fH (by simpa using h0))).2.2.1)) ?_
    refine zq 1 (zn (zs (zQ 2 (zn (gP (target != 0) ht ?_)))))
    refine zs (zQ 3 (zn (cD (((scope).tmod 2) == 1) (fun h3 => ?_) (fun h3 => ?_))))
    ·
     have h3d := eq_of_beq h3
     refine zr (zq 2 (cH (St ([UInt8.ofNat ((IntKind.u8.wrap scope) : Int).toNat] ++ (dB p.bare))) (cE _ _ _ _ rfl [UInt8.ofNat ((IntKind.u8.wrap scope) : Int).toNat] (dB p.bare) kR kR oA) ?_))
     refine zq 1 (zn (zB [0,1,0] [(b0,1)] ?_))
     obtain ⟨y4,hy4⟩ : ∃ y,(l)[i]? = some y := ⟨(l)[i]'oW,List.getElem?_eq_getElem _⟩
     obtain ⟨b4,f4,e4,hU4⟩ := hl.at_ i y4 hy4
     cases e4
     have hHy4 := jG y4
     have hqy4 : y4 = yy := by rw [hy4] at hyy; exact Option.some.inj hyy
     try rw [← hqy4] at hg0
     refine cH (Pt b2 (f2 + i * 5)) (rIx 38 rfl b2 f2 l.length c i 5) ?_
     refine zq 1 (zV b2 (f2 + i * 5 + 4) (St y2.d) (hU2 4 _ rfl) 9 (.tmp 73) _ Tryz.underlying9 rfl ?_)
     refine dA 94 #[(St y2.d)] (St (Itm.aD 2 y2.d.length ++ y2.d)) (fun W hM => aA9 y2.d (hl.ok _ (List.mem_of_getElem? hy2)).d W) ?_
     refine zq 1 (zn (zQ 2 (eE 77 (I6 (IntKind.i64.wrap ((scope).tdiv 2))) (I6 (scope / 2)) (congrArg (Value.int .i64) (aOg hs0 hs7)) ?_)))
     refine zq 2 (zn (cD ((((scope / 2)).tmod 2) == 1) (fun h4 => ?_) (fun h4 => ?_)))
     ·
      have h4d := eq_of_beq h4
      refine zr (cU [0,0,1,0] [(b0,1)] ?_)
      obtain ⟨y5,hy5⟩ : ∃ y,(l)[i]? = some y := ⟨(l)[i]'oW,List.getElem?_eq_getElem _⟩
      obtain ⟨b5,f5,e5,hU5⟩ := hl.at_ i y5 hy5
      cases e5
      have hHy5 := jG y5
      have hqy5 : y5 = yy := by rw [hy5] at hyy; exact Option.some.inj hyy
      try rw [← hqy5] at hg0
      refine cH (Pt b2 (f2 + i * 5)) (rIx 38 rfl b2 f2 l.length c i 5) ?_
      refine zU b2 (f2 + i * 5) y2.cs hU2 38 (.tmp 84) _ Tryz.underlying38 rfl ?_
      refine dA 95 #[(y2.V)] (St (aD y2)) (fun W hM => iS y2 W (hl.ok _ (List.mem_of_getElem? hy2)) (by simpa using h1)) ?_
      refine cH (St (([UInt8.ofNat ((IntKind.u8.wrap scope) : Int).toNat] ++ (dB p.bare)) ++ (aD y2))) (cE _ _ _ _ rfl ([UInt8.ofNat ((IntKind.u8.wrap scope) : Int).toNat] ++ (dB p.bare)) (aD y2) kR kR oA) ?_
      refine zq 1 (zn (zs (zQ 2 (eE 89 (I6 (IntKind.i64.wrap ((scope).tdiv 4))) (I6 (scope / 4)) (congrArg (Value.int .i64) (aNW hs0 hs7)) ?_))))
      refine zq 1 (zn (cD ((scope / 4) == 1) (fun h5 => ?_) (fun h5 => ?_)))
      ·
       have h5d := eq_of_beq h5
       refine zr (cU [0,2] [(b1,5)] (dL (fun W hM => iS sec W hs (by simpa using h2)) (cH (St ((([UInt8.ofNat ((IntKind.u8.wrap scope) : Int).toNat] ++ (dB p.bare)) ++ (aD y2)) ++ (aD sec))) (cE _ _ _ _ rfl (([UInt8.ofNat ((IntKind.u8.wrap scope) : Int).toNat] ++ (dB p.bare)) ++ (aD y2)) (aD sec) kR kR oA) ?_)))
       refine zq 1 (zn (zQ 5 (zn (aA (aH [8,9,10] [(St ((([UInt8.ofNat ((IntKind.u8.wrap scope) : Int).toNat] ++ (dB p.bare)) ++ (aD y2)) ++ (aD sec))),(St (Itm.aD 2 y2.d.length ++ y2.d)),(I6 0)] (fun W' hM => ?_))))))
       have hz0 : (aO p) = 0 := by simpa using h0
       have hz1 : (aG y2) = 0 := by simpa using h1
       have hz2 : (aG sec) = 0 := by simpa using h2
       have hz : bsZ p l target sec scope = 0 := by simp only [bsZ,rdZ,hmay,ht,ht0,h0,h1,h2,h3,h4,h5,hg0,hz0,hz1,hz2,bs,bQ,reduceIte,bne_self_eq_false]
       have hb : bsB p l target sec scope = ((([UInt8.ofNat ((IntKind.u8.wrap scope) : Int).toNat] ++ (dB p.bare)) ++ (aD y2)) ++ (aD sec)) := by simp only [bsB,hz,h0,h1,h2,h3,h4,h5,hz0,hz1,hz2,bs,bQ,reduceIte,bne_self_eq_false,pZ _ _ _ ht hs0 hs7,rdA,rdH,rdS,ht,ht0,hg0,List.append_nil]; try rfl
       have ho : aAH p l target sec scope = (Itm.aD 2 y2.d.length ++ y2.d) := by simp only [aAH,hz,h0,h1,h2,h3,h4,h5,bs,bQ,reduceIte,bne_self_eq_false,hg0]; try rfl
       exact ⟨by rw [hz,hb,ho]; rfl,hM.below⟩
      ·
       have h5d := beq_eq_false_iff_ne.1 h5
       refine zk (zQ 5 (zn (aA (aH [8,9,10] [(St (([UInt8.ofNat ((IntKind.u8.wrap scope) : Int).toNat] ++ (dB p.bare)) ++ (aD y2))),(St (Itm.aD 2 y2.d.length ++ y2.d)),(I6 0)] (fun W' hM => ?_)))))
       have hz0 : (aO p) = 0 := by simpa using h0
       have hz1 : (aG y2) = 0 := by simpa using h1
       have hz2 : (aG sec) = 0 := by simpa using h2
       have hz : bsZ p l target sec scope = 0 := by simp only [bsZ,rdZ,hmay,ht,ht0,h0,h1,h2,h3,h4,h5,hg0,hz0,hz1,hz2,bs,bQ,reduceIte,bne_self_eq_false]
       have hb : bsB p l target sec scope = (([UInt8.ofNat ((IntKind.u8.wrap scope) : Int).toNat] ++ (dB p.bare)) ++ (aD y2)) := by simp only [bsB,hz,h0,h1,h2,h3,h4,h5,hz0,hz1,hz2,bs,bQ,reduceIte,bne_self_eq_false,pZ _ _ _ ht hs0 hs7,rdA,rdH,rdS,ht,ht0,hg0,List.append_nil]; try rfl
       have ho : aAH p l target sec scope = (Itm.aD 2 y2.d.length ++ y2.d) := by simp only [aAH,hz,h0,h1,h2,h3,h4,h5,bs,bQ,reduceIte,bne_self_eq_false,hg0]; try rfl
       exact ⟨by rw [hz,hb,ho]; rfl,hM.below⟩
     ·
      have h4d := beq_eq_false_iff_ne.1 h4
      refine zk (zs (zQ 2 (eE 89 (I6 (IntKind.i64.wrap ((scope).tdiv 4))) (I6 (scope / 4)) (congrArg (Value.int .i64) (aNW hs0 hs7)) ?_)))
      refine zq 1 (zn (cD ((scope / 4) == 1) (fun h6 => ?_) (fun h6 => ?_)))
      ·
       have h6d := eq_of_beq h6
       refine zr (cU [0,2] [(b1,5)] (dL (fun W hM => iS sec W hs (by simpa using h2)) (cH (St (([UInt8.ofNat ((IntKind.u8.wrap scope) : Int).toNat] ++ (dB p.bare)) ++ (aD sec))) (cE _ _ _ _ rfl ([UInt8.ofNat ((IntKind.u8.wrap scope) : Int).toNat] ++ (dB p.bare)) (aD sec) kR kR oA) ?_)))
       refine zq 1 (zn (zQ 5 (zn (aA (aH [8,9,10] [(St (([UInt8.ofNat ((IntKind.u8.wrap scope) : Int).toNat] ++ (dB p.bare)) ++ (aD sec))),(St (Itm.aD 2 y2.d.length ++ y2.d)),(I6 0)] (fun W' hM => ?_))))))
       have hz0 : (aO p) = 0 := by simpa using h0
       have hz1 : (aG y2) = 0 := by simpa using h1
       have hz2 : (aG sec) = 0 := by simpa using h2
       have hz : bsZ p l target sec scope = 0 := by simp only [bsZ,rdZ,hmay,ht,ht0,h0,h1,h2,h3,h4,h6,hg0,hz0,hz1,hz2,bs,bQ,reduceIte,bne_self_eq_false]
       have hb : bsB p l target sec scope = (([UInt8.ofNat ((IntKind.u8.wrap scope) : Int).toNat] ++ (dB p.bare)) ++ (aD sec)) := by simp only [bsB,hz,h0,h1,h2,h3,h4,h6,hz0,hz1,hz2,bs,bQ,reduceIte,bne_self_eq_false,pZ _ _ _ ht hs0 hs7,rdA,rdH,rdS,ht,ht0,hg0,List.append_nil]; try rfl
       have ho : aAH p l target sec scope = (Itm.aD 2 y2.d.length ++ y2.d) := by simp only [aAH,hz,h0,h1,h2,h3,h4,h6,bs,bQ,reduceIte,bne_self_eq_false,hg0]; try rfl
       exact ⟨by rw [hz,hb,ho]; rfl,hM.below⟩
      ·
       have h6d := beq_eq_false_iff_ne.1 h6
       refine zk (zQ 5 (zn (aA (aH [8,9,10] [(St ([UInt8.ofNat ((IntKind.u8.wrap scope) : Int).toNat] ++ (dB p.bare))),(St (Itm.aD 2 y2.d.length ++ y2.d)),(I6 0)] (fun W' hM => ?_)))))
       have hz0 : (aO p) = 0 := by simpa using h0
       have hz1 : (aG y2) = 0 := by simpa using h1
       have hz2 : (aG sec) = 0 := by simpa using h2
       have hz : bsZ p l target sec scope = 0 := by simp only [bsZ,rdZ,hmay,ht,ht0,h0,h1,h2,h3,h4,h6,hg0,hz0,hz1,hz2,bs,bQ,reduceIte,bne_self_eq_false]
       have hb : bsB p l target sec scope = ([UInt8.ofNat ((IntKind.u8.wrap scope) : Int).toNat] ++ (dB p.bare)) := by simp only [bsB,hz,h0,h1,h2,h3,h4,h6,hz0,hz1,hz2,bs,bQ,reduceIte,bne_self_eq_false,pZ _ _ _ ht hs0 hs7,rdA,rdH,rdS,ht,ht0,hg0,List.append_nil]; try rfl
       have ho : aAH p l target sec scope = (Itm.aD 2 y2.d.length ++ y2.d) := by simp only [aAH,hz,h0,h1,h2,h3,h4,h6,bs,bQ,reduceIte,bne_self_eq_false,hg0]; try rfl
       exact ⟨by rw [hz,hb,ho]; rfl,hM.below⟩
    ·
     have h3d := beq_eq_false_iff_ne.1 h3
     refine zk (zB [0,1,0] [(b0,1)] ?_)
     obtain ⟨y6,hy6⟩ : ∃ y,(l)[i]? = some y := ⟨(l)[i]'oW,List.getElem?_eq_getElem _⟩
     obtain ⟨b6,f6,e6,hU6⟩ := hl.at_ i y6 hy6
     cases e6
     have hHy6 := jG y6
     have hqy6 : y6 = yy := by rw [hy6] at hyy; exact Option.some.inj hyy
     try rw [← hqy6] at hg0
     refine cH (Pt b2 (f2 + i * 5)) (rIx 38 rfl b2 f2 l.length c i 5) ?_
     refine zq 1 (zV b2 (f2 + i * 5 + 4) (St y2.d) (hU2 4 _ rfl) 9 (.tmp 73) _ Tryz.underlying9 rfl ?_)
     refine dA 94 #[(St y2.d)] (St (Itm.aD 2 y2.d.length ++ y2.d)) (fun W hM => aA9 y2.d (hl.ok _ (List.mem_of_getElem? hy2)).d W) ?_
     refine zq 1 (zn (zQ 2 (eE 77 (I6 (IntKind.i64.wrap ((scope).tdiv 2))) (I6 (scope / 2)) (congrArg (Value.int .i64) (aOg hs0 hs7)) ?_)))
     refine zq 2 (zn (cD ((((scope / 2)).tmod 2) == 1) (fun h7 => ?_) (fun h7 => ?_)))
     ·
      have h7d := eq_of_beq h7
      refine zr (cU [0,0,1,0] [(b0,1)] ?_)
      obtain ⟨y7,hy7⟩ : ∃ y,(l)[i]? = some y := ⟨(l)[i]'oW,List.getElem?_eq_getElem _⟩
      obtain ⟨b7,f7,e7,hU7⟩ := hl.at_ i y7 hy7
      cases e7
      have hHy7 := jG y7
      have hqy7 : y7 = yy := by rw [hy7] at hyy; exact Option.some.inj hyy
      try rw [← hqy7] at hg0
      refine cH (Pt b2 (f2 + i * 5)) (rIx 38 rfl b2 f2 l.length c i 5) ?_
      refine zU b2 (f2 + i * 5) y2.cs hU2 38 (.tmp 84) _ Tryz.underlying38 rfl ?_
      refine dA 95 #[(y2.V)] (St (aD y2)) (fun W hM => iS y2 W (hl.ok _ (List.mem_of_getElem? hy2)) (by simpa using h1)) ?_
      refine cH (St ([UInt8.ofNat ((IntKind.u8.wrap scope) : Int).toNat] ++ (aD y2))) (cE _ _ _ _ rfl [UInt8.ofNat ((IntKind.u8.wrap scope) : Int).toNat] (aD y2) kR kR oA) ?_
      refine zq 1 (zn (zs (zQ 2 (eE 89 (I6 (IntKind.i64.wrap ((scope).tdiv 4))) (I6 (scope / 4)) (congrArg (Value.int .i64) (aNW hs0 hs7)) ?_))))
      refine zq 1 (zn (cD ((scope / 4) == 1) (fun h8 => ?_) (fun h8 => ?_)))
      ·
       have h8d := eq_of_beq h8
       refine zr (cU [0,2] [(b1,5)] (dL (fun W hM => iS sec W hs (by simpa using h2)) (cH (St (([UInt8.ofNat ((IntKind.u8.wrap scope) : Int).toNat] ++ (aD y2)) ++ (aD sec))) (cE _ _ _ _ rfl ([UInt8.ofNat ((IntKind.u8.wrap scope) : Int).toNat] ++ (aD y2)) (aD sec) kR kR oA) ?_)))
       refine zq 1 (zn (zQ 5 (zn (aA (aH [8,9,10] [(St (([UInt8.ofNat ((IntKind.u8.wrap scope) : Int).toNat] ++ (aD y2)) ++ (aD sec))),(St (Itm.aD 2 y2.d.length ++ y2.d)),(I6 0)] (fun W' hM => ?_))))))
       have hz0 : (aO p) = 0 := by simpa using h0
       have hz1 : (aG y2) = 0 := by simpa using h1
       have hz2 : (aG sec) = 0 := by simpa using h2
       have hz : bsZ p l target sec scope = 0 := by simp only [bsZ,rdZ,hmay,ht,ht0,h0,h1,h2,h3,h7,h8,hg0,hz0,hz1,hz2,bs,bQ,reduceIte,bne_self_eq_false]
       have hb : bsB p l target sec scope = (([UInt8.ofNat ((IntKind.u8.wrap scope) : Int).toNat] ++ (aD y2)) ++ (aD sec)) := by simp only [bsB,hz,h0,h1,h2,h3,h7,h8,hz0,hz1,hz2,bs,bQ,reduceIte,bne_self_eq_false,pZ _ _ _ ht hs0 hs7,rdA,rdH,rdS,ht,ht0,hg0,List.append_nil]; try rfl
       have ho : aAH p l target sec scope = (Itm.aD 2 y2.d.length ++ y2.d) := by simp only [aAH,hz,h0,h1,h2,h3,h7,h8,bs,bQ,reduceIte,bne_self_eq_false,hg0]; try rfl
       exact ⟨by rw [hz,hb,ho]; rfl,hM.below⟩
      ·
       have h8d := beq_eq_false_iff_ne.1 h8
       refine zk (zQ 5 (zn (aA (aH [8,9,10] [(St ([UInt8.ofNat ((IntKind.u8.wrap scope) : Int).toNat] ++ (aD y2))),(St (Itm.aD 2 y2.d.length ++ y2.d)),(I6 0)] (fun W' hM => ?_)))))
       have hz0 : (aO p) = 0 := by simpa using h0
       have hz1 : (aG y2) = 0 := by simpa using h1
       have hz2 : (aG sec) = 0 := by simpa using h2
       have hz : bsZ p l target sec scope = 0 := by simp only [bsZ,rdZ,hmay,ht,ht0,h0,h1,h2,h3,h7,h8,hg0,hz0,hz1,hz2,bs,bQ,reduceIte,bne_self_eq_false]
       have hb : bsB p l target sec scope = ([UInt8.ofNat ((IntKind.u8.wrap scope) : Int).toNat] ++ (aD y2)) := by simp only [bsB,hz,h0,h1,h2,h3,h7,h8,hz0,hz1,hz2,bs,bQ,reduceIte,bne_self_eq_false,pZ _ _ _ ht hs0 hs7,rdA,rdH,rdS,ht,ht0,hg0,List.append_nil]; try rfl
       have ho : aAH p l target sec scope = (Itm.aD 2 y2.d.length ++ y2.d) := by simp only [aAH,hz,h0,h1,h2,h3,h7,h8,bs,bQ,reduceIte,bne_self_eq_false,hg0]; try rfl
       exact ⟨by rw [hz,hb,ho]; rfl,hM.below⟩
     ·
      have h7d := beq_eq_false_iff_ne.1 h7
      refine zk (zs (zQ 2 (eE 89 (I6 (IntKind.i64.wrap ((scope).tdiv 4))) (I6 (scope / 4)) (congrArg (Value.int .i64) (aNW hs0 hs7)) ?_)))
      refine zq 1 (zn (cD ((scope / 4) == 1) (fun h9 => ?_) (fun h9 => ?_)))
      ·
       have h9d := eq_of_beq h9
       refine zr (cU [0,2] [(b1,5)] (dL (fun W hM => iS sec W hs (by simpa using h2)) (cH (St ([UInt8.ofNat ((IntKind.u8.wrap scope) : Int).toNat] ++ (aD sec))) (cE _ _ _ _ rfl [UInt8.ofNat ((IntKind.u8.wrap scope) : Int).toNat] (aD sec) kR kR oA) ?_)))
       refine zq 1 (zn (zQ 5 (zn (aA (aH [8,9,10] [(St ([UInt8.ofNat ((IntKind.u8.wrap scope) : Int).toNat] ++ (aD sec))),(St (Itm.aD 2 y2.d.length ++ y2.d)),(I6 0)] (fun W' hM => ?_))))))
       have hz0 : (aO p) = 0 := by simpa using h0
       have hz1 : (aG y2) = 0 := by simpa using h1
       have hz2 : (aG sec) = 0 := by simpa using h2
       have hz : bsZ p l target sec scope = 0 := by simp only [bsZ,rdZ,hmay,ht,ht0,h0,h1,h2,h3,h7,h9,hg0,hz0,hz1,hz2,bs,bQ,reduceIte,bne_self_eq_false]
       have hb : bsB p l target sec scope = ([UInt8.ofNat ((IntKind.u8.wrap scope) : Int).toNat] ++ (aD sec)) := by simp only [bsB,hz,h0,h1,h2,h3,h7,h9,hz0,hz1,hz2,bs,bQ,reduceIte,bne_self_eq_false,pZ _ _ _ ht hs0 hs7,rdA,rdH,rdS,ht,ht0,hg0,List.append_nil]; try rfl
       have ho : aAH p l target sec scope = (Itm.aD 2 y2.d.length ++ y2.d) := by simp only [aAH,hz,h0,h1,h2,h3,h7,h9,bs,bQ,reduceIte,bne_self_eq_false,hg0]; try rfl
       exact ⟨by rw [hz,hb,ho]; rfl,hM.below⟩
      ·
       have h9d := beq_eq_false_iff_ne.1 h9
       refine zk (zQ 5 (zn (aA (aH [8,9,10] [(St [UInt8.ofNat ((IntKind.u8.wrap scope) : Int).toNat]),(St (Itm.aD 2 y2.d.length ++ y2.d)),(I6 0)] (fun W' hM => ?_)))))
       have hz0 : (aO p) = 0 := by simpa using h0
       have hz1 : (aG y2) = 0 := by simpa using h1
       have hz2 : (aG sec) = 0 := by simpa using h2
       have hz : bsZ p l target sec scope = 0 := by simp only [bsZ,rdZ,hmay,ht,ht0,h0,h1,h2,h3,h7,h9,hg0,hz0,hz1,hz2,bs,bQ,reduceIte,bne_self_eq_false]
       have hb : bsB p l target sec scope = [UInt8.ofNat ((IntKind.u8.wrap scope) : Int).toNat] := by simp only [bsB,hz,h0,h1,h2,h3,h7,h9,hz0,hz1,hz2,bs,bQ,reduceIte,bne_self_eq_false,pZ _ _ _ ht hs0 hs7,rdA,rdH,rdS,ht,ht0,hg0,List.append_nil]; try rfl
       have ho : aAH p l target sec scope = (Itm.aD 2 y2.d.length ++ y2.d) := by simp only [aAH,hz,h0,h1,h2,h3,h7,h9,bs,bQ,reduceIte,bne_self_eq_false,hg0]; try rfl
       exact ⟨by rw [hz,hb,ho]; rfl,hM.below⟩
theorem aBa (p : Pr) (l : List Bk) (a : Option Addr) (c : Nat) (target : Int) (sec : Bk) (scope : Int) (i : Nat) (w : World) {U : View} (hU : See U w) (hp : p.ok) (hl : cX U a l) (hs : sec.ok)
    (ht : (target != 0) = true) (hi : gH l target = (i : Int)) (hlt : i < l.length) (hs0 : 0 ≤ scope) (hs7 : scope ≤ 7) :
    CP 27 #[bnV p a l.length c, .int .i64 target, sec.V, .int .i64 scope] w (Ret (.tuple #[.string (B (bsB p l target sec scope)), .int .i64 (bsZ p l target sec scope)]) w) := by
 have ht0 : (target == 0) = false := by simpa using ht
 refine eG 34 Tryz.func27 hU ?_
 refine zs (zr (cJ (fun b0 => (cJ (fun b1 => (zq 2 (zn (zs (zQ 3 (eE 15 (.bool (decide (scope ≥ 0))) (.bool true) (congrArg Value.bool (decide_eq_true oW)) ?_))))))))))
 refine zq 4 (eE 19 (.bool (decide (scope ≤ 7))) (.bool true) (congrArg Value.bool (decide_eq_true oW)) ?_)
 refine zq 3 (zn (eS (target == 0) ht0 ?_))
 refine zk (zB [1,0,2,0] [(b0,20),(b1,5)] (dA 45 #[(bnV p a l.length c),(I6 target),(sec.V),(I6 scope)] (.tuple #[(St (bsB p l target sec scope)),(St (aAH p l target sec scope)),(I6 (bsZ p l target sec scope))]) (fun W hM => aE2 p l _ _ target sec scope i W hM.view hp hl hs ht hi hlt hs0 hs7) ?_))
 refine zq 7 (zn (zQ 4 (zn (aA (aH [8,9] [(St (bsB p l target sec scope)),(I6 (bsZ p l target sec scope))] (fun W' hM => ?_))))))
 exact ⟨rfl,hM.below⟩
theorem aE7 (p : Pr) (l : List Bk) (a : Option Addr) (c : Nat) (w : World) {U : View} (hU : See U w) (hp : p.ok) (hl : cX U a l) (hz : (eO p l != 0) = true) : CP 28 #[bnV p a l.length c] w (Ret (.int .i64 (eO p l)) w) := by
 have hlen := hl.len
 unfold R47 at hlen
 refine eG 102 Tryz.func28 hU ?_
 refine zs (zr (cJ (fun b0 => (zq 1 (zn (zs (zB [0,1] [(b0,19)] (dA 71 #[(p.V)] (I6 (aO p)) (fun W hM => (aB6 p hp) ▸ aA2 p W hp) ?_))))))))
 refine zq 1 (zn (zQ 2 (zn (cD ((aO p) != 0) (fun h0 => ?_) (fun h0 => ?_)))))
 ·
  refine zQ 2 (zn (aA (aH [2] [(I6 (aO p))] (fun W' hM => ?_))))
  refine ⟨?_,hM.below⟩
  unfold eO
  rw [if_pos h0]
  rfl
 ·
  have h0d := bne_eq_false_iff_eq.1 h0
  refine zk (zB [0,1,0] [(b0,1)] (zn (zs (zQ 1 (zn (aB (gX (α := Nat) (fun x => [1,2,4,5].zip [(Pt b0 0),(I6 0),(.slice a l.length c),(L6 x)]) (fun x => U) (fun x => [(bK b0 (eB p a l.length c) 29)]) (fun x => x ≤ l.length ∧ oU (l.drop x) = eO p l) (fun x => l.length - x) 0 ?_ ?_)))))))
  · exact ⟨Nat.zero_le _,by rw [List.drop_zero]; unfold eO; rw [if_neg (by rw [h0]; exact Bool.false_ne_true)]⟩
  intro x hx
  obtain ⟨hx1,hx2⟩ := hx
  refine zs (zQ 4 (zn (cD (decide ((x : Int) < (l.length : Int))) (fun h1 => ?_) (fun h1 => ?_))))
  ·
   have h1d := of_decide_eq_true h1
   refine zk (zs (aB (zQ 2 ?_)))
   obtain ⟨y1,hy1⟩ : ∃ y,(l)[x]? = some y := ⟨(l)[x]'oW,List.getElem?_eq_getElem _⟩
   obtain ⟨b1,f1,rfl,hU1⟩ := hl.at_ x y1 hy1
   refine cH (Pt b1 (f1 + x * 5)) (rIx 38 rfl b1 f1 l.length c x 5) ?_
   refine zU b1 (f1 + x * 5) y1.cs hU1 38 (.tmp 24) _ Tryz.underlying38 rfl ?_
   refine dA 72 #[(y1.V)] (I6 (aG y1)) (fun W hM => (tX y1) ▸ rA y1 W) ?_
   refine zq 1 (zn (zQ 2 (zn (cD ((aG y1) != 0) (fun h2 => ?_) (fun h2 => ?_)))))
   ·
    have h2d := bne_iff_ne.1 h2
    refine zQ 2 (zn (aA (aH [2] [(I6 (aG y1))] (fun W' hM => ?_))))
    refine ⟨?_,hM.below⟩
    rw [← hx2,qO hy1,if_pos h2]
    rfl
   ·
    have h2d := bne_eq_false_iff_eq.1 h2
    refine zk (zr (zq 2 (fC 21 ((x : Int) + 1) (zq 1 (zn ?_)))))
    refine nx (x + 1) ?_ ?_
    · exact ⟨by omega,by rw [← hx2,qO hy1,h2]; rfl⟩
    · show l.length - (x + 1) < l.length - x; omega
  ·
   have h1d := of_decide_eq_false h1
   refine aU (zs (zs ?_))
   rw [cY oW] at hx2; rw [← hx2] at hz; cases hz
theorem aD8 {l m : List Bk} {t : Int} (h : l.find? (fun x => x.n == t) = m.find? (fun x => x.n == t)) : aJ l t = aJ m t := by
 unfold aJ
 rw [h]
theorem aLQ {l : List Bk} {t : Int} {y : Bk} (h : aJ l t = (y, true)) : y.n = t := by
 unfold aJ at h
 split at h
 ·
  next z hzf =>
  have h5 := List.find?_some (p := fun x : Bk => x.n == t) hzf
  have h6 : z = y := congrArg Prod.fst h
  rw [← h6]
  simpa using h5
 · cases h
theorem aDe {l : List Bk} {x : Bk} {t : Int} (h : (x.n == t) = false) : aJ (gN l x) t = aJ l t := by
 refine aD8 ?_
 unfold gN
 rw [List.find?_append, List.find?_append, List.find?_cons, h, List.find?_nil, Option.or_none, ← List.find?_append, List.take_append_drop]
theorem aD7 {l : List Bk} {t : Int} (h : gH l t < 0) : l.find? (fun x => x.n == t) = none := by
 have := aAL h
 unfold aJ at this
 split at this
 · cases this
 · assumption
theorem aJs {l : List Bk} {x : Bk} (h : gH l x.n < 0) : aJ (gN l x) x.n = (x, true) := by
 have h1 := aD7 h
 have h2 : (l.take (l.length - 1)).find? (fun y => y.n == x.n) = none := by
  rw [List.find?_eq_none] at h1 ⊢
  exact fun y hy => h1 y (List.mem_of_mem_take hy)
 unfold aJ gN
 rw [List.find?_append, List.find?_append, h2, List.find?_cons, beq_self_eq_true]
 rfl
theorem sX {l : List Bk} {i : Nat} {y : Bk} {t : Int} {d : List UInt8} (hi : gH l t = (i : Int)) (hy : l[i]? = some y) : aJ (l.set i (y.withD d)) t = (y.withD d, true) := by
 have h1 : gH (l.set i (y.withD d)) t = (i : Int) := (aDb hy).trans hi
 have hlt := (List.getElem?_eq_some_iff.1 hy).1
 exact sV (by rw [h1]; omega) (by rw [h1, Int.toNat_natCast]; exact List.getElem?_set_self hlt)
theorem aHp {l : List Bk} {k : Nat} {z : Bk} {t : Int} (hz : l[k]? = some z) (h : (z.n == t) = false) : aJ (dR l k) t = aJ l t := by
 refine aD8 ?_
 have hl : l = l.take k ++ z :: l.drop (k + 1) := by
  rw [← cK hz, List.take_append_drop]
 unfold dR
 conv => rhs; rw [hl]
 rw [List.find?_append, List.find?_append, List.find?_cons, h]
theorem aHy (x : Bk) : aG x = 0 ∨ aG x = 1 ∨ aG x = 4 ∨ aG x = 8 := by
 unfold aG
 (repeat' split) <;> simp
theorem aJQ {x : Bk} {d : List UInt8} (h : aG x = 0) : aG (x.withD d) ≠ 1 := by
 unfold aG at h
 split at h
 · cases h
 ·
  next h1 =>
  show (if (!iC x.t || !iC x.n || decide ((x.f : Int) > 255) || decide (x.c < 0) || decide (x.c > 2)) = true then (1 : Int) else if decide ((d.length : Int) > 4000) = true then 4 else if (!((x.t == 1) == (x.n == 1))) = true then 8 else 0) ≠ 1
  rw [if_neg h1]
  (repeat' split) <;> simp
theorem aLx (l : List Bk) : (∃ x ∈ l, aG x = oU l ∧ aG x ≠ 0) ∨ oU l = 0 := by
 unfold oU
 split
 · next x hx => exact .inl ⟨x, List.mem_of_find?_eq_some hx, rfl, by have := List.find?_some hx; simpa using this⟩
 · exact .inr rfl
theorem aHw (p : Pr) (l : List Bk) (h0 : aO p = 0) : aZ p l ≠ 7 ∧ (aZ p l = 1 → ∃ x ∈ l, aG x = 1) := by
 have hp : eO p l = oU l := by unfold eO; rw [h0]; rfl
 unfold aZ aAB
 rw [hp]
 split
 ·
  show oU l ≠ 7 ∧ (oU l = 1 → _)
  rcases aLx l with ⟨x, hx, h1, _⟩ | h1
  ·
   rw [← h1]
   exact ⟨by rcases aHy x with h | h | h | h <;> omega, fun h => ⟨x, hx, h⟩⟩
  · exact ⟨by omega, fun h => by omega⟩
 ·
  split
  ·
   show gW p l ≠ 7 ∧ (gW p l = 1 → _)
   unfold gW
   (repeat' split) <;> exact ⟨by decide, fun h => absurd h (by decide)⟩
  ·
   split
   · exact ⟨by decide, fun h => absurd h (by decide)⟩
   · exact ⟨(by decide : (0 : Int) ≠ 7), fun h => absurd (show (0 : Int) = 1 from h) (by decide)⟩
theorem aGZ {p : Pr} {l : List Bk} {x : Bk} (hx : x ∈ l) (h : aG x ≠ 0) : (eO p l != 0) = true := by
 unfold eO
 split
 · assumption
 ·
  unfold oU
  split
  · next y hy => exact List.find?_some (p := fun x => aG x != 0) hy
  ·
   next hn =>
   rw [List.find?_eq_none] at hn
   have := hn x hx
   simp [h] at this
theorem aAZ {p : Pr} {l : List Bk} {e : Ei} {vr fl target : Int} {key nonce : List UInt8} (h : (dT p l e vr fl key nonce target).2.2 = 0) :
  aZ p l = 0 ∧ aX e = true ∧ eV l target (rR l) fl = 0 ∧ gV vr key nonce = true ∧ aZ p (iZ l e vr fl nonce target) = 0 ∧ aBO p l e vr fl key nonce target = true ∧ dT p l e vr fl key nonce target = (p, iZ l e vr fl nonce target, 0) := by
 unfold dT at h
 split at h
 · next h1 => rw [show aDw p l 2 [target] = 0 from h] at h1; cases h1
 ·
  next h1 =>
  split at h
  · cases h
  ·
   next h2 =>
   split at h
   · next h3 => rw [show eV l target (rR l) fl = 0 from h] at h3; cases h3
   ·
    next h3 =>
    split at h
    · cases h
    ·
     next h4 =>
     have h1' := Bool.eq_false_iff.2 h1
     have h2' : aX e = true := by simpa using h2
     have h3' : eV l target (rR l) fl = 0 := by simpa using h3
     have h4' : gV vr key nonce = true := by simpa using h4
     have h5 : aZ p (iZ l e vr fl nonce target) = 0 := h
     refine ⟨mU h1', h2', h3', h4', h5, ?_, ?_⟩
     ·
      unfold aBO
      rw [h1', h2', h3', h4']
      rfl
     ·
      unfold dT iD tO
      rw [if_neg h1, if_neg h2, if_neg h3, if_neg h4, h5]
      rfl
theorem aIS {l : List UInt8} (h : l.length ≤ 100000) : Itm.NOk (dY l) := .mk 2 0 l [] false (by decide) (by unfold Itm.W64; omega) fun i t ht => by simp at ht
theorem aHA {e : Ei} {vr fl target : Int} {nonce tag : List UInt8} (he : aX e = true) (ht : gS target = true) (hn : nonce.length ≤ 16) (hg : tag.length ≤ 64) : (pC e vr fl target nonce tag).right = true := by
 have hs : ∀ l : List UInt8, Itm.aN 8 (dY l) = true := fun l => by simp [Itm.aN, dY, Itm.okN, Itm.Tr.k, Itm.Tr.n, Itm.Tr.s, Itm.Tr.l, Itm.Tr.o]
 have hm : ∀ n : Nat, Itm.aN 8 (Itm.cN n) = true := fun n => fB 7 n
 have p1 : ∀ (i : Int) (l : List UInt8), paB ⟨i, dY l⟩ = true := fun i l => by
  unfold paB
  rw [show (Pa.mk i (dY l)).v = dY l from rfl, hs]
  rfl
 have p2 : ∀ (i : Int) (n : Nat), paB ⟨i, Itm.cN n⟩ = true := fun i n => by
  unfold paB
  rw [show (Pa.mk i (Itm.cN n)).v = Itm.cN n from rfl, hm]
  rfl
 have u1 : jL [target] = true := by
  unfold jL lI lI
  rw [ht]
  rfl
 have hsh : dV (pC e vr fl target nonce tag) = true := by
  unfold dV pC aBP jB
  simp only [u1, he, List.all_cons, List.all_nil, p1, p2, Bool.and_true, Bool.true_and, List.length_cons, List.length_nil, List.map_cons, List.map_nil]
  simp [jL, lI, gS]
 have h1 := Itm.lG (pC e vr fl target nonce tag).items
 have h2 := aHZ (aGm he)
 have h3 : Itm.szL (pC e vr fl target nonce tag).items ≤ 400 := by
  unfold As.items pC
  rw [if_neg (by simp)]
  simp only [lR, aLF, Pa.tree, Itm.dH, Itm.cN, dY, Itm.szT, Itm.szL, List.map_cons, List.map_nil, List.length_nil]
  omega
 unfold As.right
 rw [hsh, Bool.true_and, decide_eq_true_eq]
 unfold As.bytes
 omega
theorem aMK {e : Ei} {vr fl target : Int} {nonce tag : List UInt8} (he : e.ok) (hv : vr ≤ 3) (hf : fl ≤ 7) (hn : nonce.length ≤ 16) (hg : tag.length ≤ 64) : (pC e vr fl target nonce tag).ok := by
 refine ⟨he, fun x hx => ?_, fun l hl x hx => ?_⟩
 ·
  simp only [pC, List.mem_cons, List.not_mem_nil, or_false] at hx
  rcases hx with rfl | rfl | rfl
  · exact aIS oW
  · exact jM oW
  · exact jM oW
 ·
  simp only [pC, List.mem_cons, List.not_mem_nil, or_false] at hl
  subst hl
  simp only [List.mem_cons, List.not_mem_nil, or_false] at hx
  subst hx
  exact aIS oW
theorem aDN {a : As} (ho : a.ok) (h : a.right = true) : gE a.bytes = some a := by
 have hx : ∃ b : As, b.ok ∧ b.right = true ∧ b.bytes = a.bytes := ⟨a, ho, h, rfl⟩
 unfold gE
 rw [dif_pos hx]
 obtain ⟨h1, h2, h3⟩ := hx.choose_spec
 rw [bytes_inj h2 h h1 ho h3]
theorem aKG {C : List Bk} {s : Bk} {num : Int} {e : Ei} {vr fl target : Int} {nonce tag : List UInt8} (hg : aJ C num = (s, true)) (ht : s.t = 12) (hd : s.d = (pC e vr fl target nonce tag).outB) (hr : (pC e vr fl target nonce tag).right = true) (ho : (pC e vr fl target nonce tag).ok)
  (hv : 0 ≤ vr ∧ vr ≤ 3) (hf : 0 ≤ fl ∧ fl ≤ 7) : cA C num = (⟨s, target, nonce, tag, vr, fl⟩, 0) := by
 have hp : gE s.d = some (pC e vr fl target nonce tag) := by
  rw [hd]
  unfold As.outB
  rw [if_pos hr]
  exact aDN ho hr
 have c1 : aEG vr.toNat = vr := by unfold aEG; split <;> omega
 have c2 : aEG fl.toNat = fl := by unfold aEG; split <;> omega
 unfold cA
 rw [hg]
 simp only [ht, hp]
 rw [if_neg (by decide), if_neg (by simp [pC]), if_neg (by simp [pC, pF, dY, Itm.cN, Itm.Tr.k])]
 show (Sd.mk s target nonce tag (aEG vr.toNat) (aEG fl.toNat), (0 : Int)) = _
 rw [c1, c2]
theorem aLX {p : Pr} {l : List Bk} {fl target : Int} {s : Bk} (hb : aZ p l = 0) (hz : eV l target (rR l) fl = 0) (hs : aG s = 0) (hh : aD s = aD (rR l)) : bsZ p l target s fl = 0 ∧ bsB p l target s fl = gB p l target (rR l) fl := by
 obtain ⟨h1, h2, h3, h4⟩ := fF hz
 obtain ⟨hp, hx⟩ := sH hb
 have hm : aFm fl = true := by unfold aFm; rw [decide_eq_true h1, decide_eq_true h2]; rfl
 have ht : (target == 0) = false := by simpa using h3
 have ht' : (target != 0) = true := by simpa using h3
 have hx' := hx _ (iK h4)
 have z1 : bsZ p l target s fl = 0 := by
  unfold bsZ rdZ
  rw [hm, ht, ht', h4, hp, hx']
  simpa using hs
 have z2 : aG (rR l) = 0 := by
  have h := hz
  unfold eV aIx at h
  rw [hm, ht, ht', h4] at h
  simpa using h
 refine ⟨z1, ?_⟩
 unfold bsB gB
 rw [z1, hz]
 unfold rdA rdH rdS aKF aKE aKD
 rw [ht', h4, hp, ht, hx', hs, z2, hh]
 rfl
theorem aIm (l : List Bk) (e : Ei) (vr fl : Int) (nonce : List UInt8) (target : Int) : aD (gT l e vr fl nonce target) = aD (rR l) := rfl
def aKb (p : Pr) (l : List Bk) (vr fl : Int) (key nonce : List UInt8) (target : Int) : En := ⟨vr, key, nonce, gB p l target (rR l) fl, (aJ l target).1.d, Eng.aI 1 (aJ l target).1.d.length, Eng.aI 1 (dC vr)⟩
def opE (p : Pr) (l : List Bk) (vr fl : Int) (key nonce : List UInt8) (target : Int) (key2 : List UInt8) : OpF := fun v nn wt m g => sY [aKb p l vr fl key nonce target] v key2 nn wt m g
def aMV (l : List Bk) (e : Ei) (vr fl : Int) (nonce : List UInt8) (target : Int) (m : List Bk) (i : Nat) (x : Bk) : List Bk := gN (m.set i (x.withD (Eng.aI 1 (aJ l target).1.d.length))) (gT l e vr fl nonce target)
theorem aNo (p : Pr) (l : List Bk) (vr fl : Int) (key nonce : List UInt8) (target : Int) (key2 BB : List UInt8) (hs : gV vr key nonce = true) :
  (key = key2 → gB p l target (rR l) fl = BB → opE p l vr fl key nonce target key2 vr nonce BB (Eng.aI 1 (aJ l target).1.d.length) (Eng.aI 1 (dC vr)) = ((aJ l target).1.d, 0)) ∧
  (¬ (key = key2 ∧ gB p l target (rR l) fl = BB) → (opE p l vr fl key nonce target key2 vr nonce BB (Eng.aI 1 (aJ l target).1.d.length) (Eng.aI 1 (dC vr))).2 ≠ 0) := by
 constructor
 ·
  rintro rfl rfl
  unfold opE sY iO
  rw [if_neg (by rw [hs]; simp), List.find?_cons]
  have hh : aDi vr key nonce (gB p l target (rR l) fl) (Eng.aI 1 (aJ l target).1.d.length) (Eng.aI 1 (dC vr)) (aKb p l vr fl key nonce target) = true := by
   unfold aDi aKb
   simp
  rw [hh]
  rfl
 ·
  intro hn
  have hh : aDi vr key2 nonce BB (Eng.aI 1 (aJ l target).1.d.length) (Eng.aI 1 (dC vr)) (aKb p l vr fl key nonce target) = false := by
   unfold aDi aKb
   rw [decide_eq_false_iff_not]
   rintro ⟨_, h1, _, h2, _⟩
   exact hn ⟨h1, h2⟩
  unfold opE sY iO
  split
  · simp
  ·
   rw [List.find?_cons, hh]
   simp
theorem aG9 {p q : Pr} {l m : List Bk} {e : Ei} {vr fl target : Int} {key nonce key2 : List UInt8} {i : Nat} {x : Bk} (hok : (dT p l e vr fl key nonce target).2.2 = 0) (he : e.ok) (hi : gH m target = (i : Int)) (hx : m[i]? = some x) (hn : gH m (dX l : Int) < 0) :
  let C := aMV l e vr fl nonce target m i x
  let s := gT l e vr fl nonce target
  let rr := aFl (opE p l vr fl key nonce target key2) q C (dX l : Int)
  ((bsZ q C target s fl != 0) = true ∨ (bsB q C target s fl == bsB p l target s fl) = false ∨ (key2 == key) = false → (rr.2.2 != 0) = true ∧ rr.1 = Pr.zero ∧ rr.2.1 = []) ∧
  ((bsZ q C target s fl != 0) = false → (bsB q C target s fl == bsB p l target s fl) = true → (key2 == key) = true → rr.2.2 ≠ 7 ∧ (rr.2.2 = 1 → (eO q C != 0) = true) ∧ (rr.2.2 = 0 → aJ rr.2.1 target = (x.withD (aJ l target).1.d, true))) := by
 intro C s rr
 obtain ⟨hb, hei, hz, hsl, hbs, _, hsr⟩ := aAZ hok
 obtain ⟨hf1, hf2, ht0, hg⟩ := fF hz
 obtain ⟨j, y, hj, hy, hgy⟩ := mG hg
 obtain ⟨hv1, hv2, hnl⟩ := pN hsl
 have hgl := aAG vr
 have hsm : s ∈ iZ l e vr fl nonce target := by unfold iZ gN; simp [s]
 have hsr0 : aG s = 0 := (sH hbs).2 _ hsm
 have hyt : gS target = true := by
  have h1 := (sH hb).2 y (List.mem_of_getElem? hy)
  obtain ⟨_, h2, _⟩ := fK h1
  have h3 : y.n = target := aLQ hgy
  unfold iC at h2
  unfold gS
  rw [Bool.and_eq_true, decide_eq_true_eq, decide_eq_true_eq] at h2 ⊢
  omega
 have hfr : (Eng.aI 1 (dC vr)).length ≤ 64 := by rw [Eng.iL]; exact hgl
 have har := aHA (vr := vr) (fl := fl) (tag := Eng.aI 1 (dC vr)) hei hyt hnl hfr
 have hao := aMK (target := target) (tag := Eng.aI 1 (dC vr)) he hv2 (by omega : fl ≤ 7) hnl hfr
 have hsn : (s.n == target) = false := by
  rw [beq_eq_false_iff_ne]
  intro h
  rw [show s.n = (dX l : Int) from rfl] at h
  rw [h, hi] at hn
  omega
 have hnX : gH (m.set i (x.withD (Eng.aI 1 (aJ l target).1.d.length))) s.n < 0 := by
  rw [aDb hx]
  exact hn
 have gs : aJ C s.n = (s, true) := aJs hnX
 have gt : aJ C target = (x.withD (Eng.aI 1 (aJ l target).1.d.length), true) := (aDe hsn).trans (sX hi hx)
 have hrd : cA C (dX l : Int) = (⟨s, target, nonce, Eng.aI 1 (dC vr), vr, fl⟩, 0) := aKG gs rfl rfl har hao ⟨hv1, hv2⟩ ⟨hf1, by omega⟩
 obtain ⟨o1, o2⟩ := aNo p l vr fl key nonce target key2 (bsB q C target s fl) hsl
 have hw := (aLX hb hz hsr0 (aIm l e vr fl nonce target)).2
 have hrr : rr = if bsZ q C target s fl != 0 then (Pr.zero, [], bsZ q C target s fl) else if (opE p l vr fl key nonce target key2 vr nonce (bsB q C target s fl) (Eng.aI 1 (aJ l target).1.d.length) (Eng.aI 1 (dC vr))).2 != 0 then (Pr.zero, [], (opE p l vr fl key nonce target key2 vr nonce (bsB q C target s fl) (Eng.aI 1 (aJ l target).1.d.length) (Eng.aI 1 (dC vr))).2)
   else (iD q (aKa C (dX l : Int) target (opE p l vr fl key nonce target key2 vr nonce (bsB q C target s fl) (Eng.aI 1 (aJ l target).1.d.length) (Eng.aI 1 (dC vr))).1), tO q (aKa C (dX l : Int) target (opE p l vr fl key nonce target key2 vr nonce (bsB q C target s fl) (Eng.aI 1 (aJ l target).1.d.length) (Eng.aI 1 (dC vr))).1), aZ q (aKa C (dX l : Int) target (opE p l vr fl key nonce target key2 vr nonce (bsB q C target s fl) (Eng.aI 1 (aJ l target).1.d.length) (Eng.aI 1 (dC vr))).1)) := by
  show aFl _ q C (dX l : Int) = _
  unfold aFl
  rw [hrd, gt]
  rfl
 constructor
 ·
  intro hc
  rw [hrr]
  split
  · next h1 => exact ⟨h1, rfl, rfl⟩
  ·
   next h1 =>
   have h2 : (opE p l vr fl key nonce target key2 vr nonce (bsB q C target s fl) (Eng.aI 1 (aJ l target).1.d.length) (Eng.aI 1 (dC vr))).2 ≠ 0 := o2 fun ⟨k1, k2⟩ => by
    rcases hc with hc | hc | hc
    · exact h1 hc
    ·
     rw [hw, k2, beq_self_eq_true] at hc
     cases hc
    ·
     rw [k1, beq_self_eq_true] at hc
     cases hc
   rw [if_pos (by simpa using h2)]
   exact ⟨by simpa using h2, rfl, rfl⟩
 ·
  intro h1 h2 h3
  have hop := o1 (by simpa using h3 : key2 = key).symm (hw.symm.trans (by simpa using h2 : bsB q C target s fl = bsB p l target s fl).symm)
  rw [hrr, h1, if_neg Bool.false_ne_true, hop]
  rw [if_neg (by simp)]
  obtain ⟨_, _, _, _, hpq, hxr, _⟩ := aDp (by simpa using h1 : bsZ q C target s fl = 0)
  rw [gt] at hxr
  obtain ⟨k, X, hk, hkX, hgk⟩ := mG (l := C) (t := target) (by rw [gt])
  obtain ⟨k2, S, hk2, hkS, hgS⟩ := mG (l := C) (t := (dX l : Int)) (by rw [show aJ C (dX l : Int) = (s, true) from gs])
  have hX : X = x.withD (Eng.aI 1 (aJ l target).1.d.length) := by rw [gt] at hgk; exact (congrArg Prod.fst hgk).symm
  have hS : S = s := by rw [show aJ C (dX l : Int) = (s, true) from gs] at hgS; exact (congrArg Prod.fst hgS).symm
  have hL : aKa C (dX l : Int) target (aJ l target).1.d = dR (C.set k (X.withD (aJ l target).1.d)) k2 := by
   unfold aKa
   rw [hk, hk2, hgk, Int.toNat_natCast, Int.toNat_natCast]
  have hXd : X.withD (aJ l target).1.d = x.withD (aJ l target).1.d := by rw [hX]; rfl
  rw [show ((aJ l target).1.d, (0 : Int)).1 = (aJ l target).1.d from rfl, hL]
  obtain ⟨n1, n2⟩ := aHw q (dR (C.set k (X.withD (aJ l target).1.d)) k2) hpq
  refine ⟨n1, fun h => ?_, fun h => ?_⟩
  ·
   obtain ⟨z, hz1, hz2⟩ := n2 h
   have hz3 : z ∈ C.set k (X.withD (aJ l target).1.d) := by
    unfold dR at hz1
    rcases List.mem_append.1 hz1 with hz1 | hz1
    · exact List.mem_of_mem_take hz1
    · exact List.mem_of_mem_drop hz1
   rcases List.mem_or_eq_of_mem_set hz3 with hz3 | rfl
   · exact aGZ hz3 oW
   ·
    rw [← hX] at hxr
    exact absurd hz2 (aJQ hxr)
  ·
   have hc : tO q (dR (C.set k (X.withD (aJ l target).1.d)) k2) = dR (C.set k (X.withD (aJ l target).1.d)) k2 := by
    unfold tO
    rw [if_neg (by rw [show aZ q (dR (C.set k (X.withD (aJ l target).1.d)) k2) = 0 from h]; simp)]
   rw [hc, ← hXd]
   have hkn : k2 ≠ k := by
    rintro rfl
    rw [hkX] at hkS
    have := Option.some.inj hkS
    rw [hS, hX] at this
    have h5 := congrArg Bk.n this
    rw [← hX] at h5
    rw [← h5, aLQ hgk, beq_self_eq_true] at hsn
    cases hsn
   rw [aHp (z := s) (by rw [List.getElem?_set_ne hkn.symm, hkS, hS]) hsn]
   exact sX hk hkX
def aOo (p : Pr) (l : List Bk) (a : Option Addr) (c : Nat) (v : Value) (_ : View) (S : aF) : Prop := ∃ b, v = .pointer (some ⟨b, 0, none⟩) ∧ S = [(b, .cells (eB p a l.length c).toArray 29 (0, 0))]
theorem aFI {n k : Nat} (K : Int) (hK : K = (k : Int)) (h : k ≤ n) (h2 : n ≤ 1000000) : IntKind.i64.wrap ((n : Int) - K) = ((n - k : Nat) : Int) := by
 rw [IntWalk.i64_in _ oW]
 omega
section
variable {p : Pr} {l : List Bk} {e : Ei} {vr fl target : Int} {key nonce : List UInt8}
theorem aMa (h : (dT p l e vr fl key nonce target).2.2 = 0) : l ≠ [] := by
 obtain ⟨_, _, hz, _⟩ := aAZ h
 obtain ⟨_, _, _, hg⟩ := fF hz
 rintro rfl
 cases hg
theorem aFU (h : (dT p l e vr fl key nonce target).2.2 = 0) : (iZ l e vr fl nonce target).length = l.length + 1 ∧ 1 ≤ l.length := by
 have hne := aMa h
 have h1 := List.length_pos_iff.2 hne
 unfold iZ
 rw [aCX (by rw [← List.length_pos_iff, List.length_set]; exact h1), List.length_set]
 omega
theorem aKu (h : (dT p l e vr fl key nonce target).2.2 = 0) : (iZ l e vr fl nonce target)[(iZ l e vr fl nonce target).length - 2]? = some (gT l e vr fl nonce target) := by
 obtain ⟨h1, h2⟩ := aFU h
 rw [h1]
 unfold iZ gN
 rw [List.length_set, List.append_assoc, List.getElem?_append_right (by rw [List.length_take, List.length_set]; omega), List.length_take, List.length_set]
 rw [show l.length + 1 - 2 - min (l.length - 1) l.length = 0 by omega]
 rfl
theorem aFT (h : (dT p l e vr fl key nonce target).2.2 = 0) (hn : ((dX l : Int) == target) = false) : aJ (iZ l e vr fl nonce target) target = ((aJ l target).1.withD (Eng.aI 1 (aJ l target).1.d.length), true) := by
 obtain ⟨_, _, hz, _⟩ := aAZ h
 obtain ⟨_, _, _, hg⟩ := fF hz
 obtain ⟨i, y, hi, hy, hgy⟩ := mG hg
 unfold iZ
 rw [aDe (x := gT l e vr fl nonce target) hn, hi, hgy, Int.toNat_natCast]
 exact sX hi hy
theorem aKv (h : (dT p l e vr fl key nonce target).2.2 = 0) : ∃ j : Nat, gH (iZ l e vr fl nonce target) target = (j : Int) ∧ j < (iZ l e vr fl nonce target).length := by
 have h0 : ¬ gH (iZ l e vr fl nonce target) target < 0 := fun h0 => by
  have h1 := aD7 h0
  cases hb : ((dX l : Int) == target) with
  | true =>
   rw [List.find?_eq_none] at h1
   exact h1 (gT l e vr fl nonce target) (by unfold iZ gN; simp) hb
  | false =>
   have h3 : (aJ (iZ l e vr fl nonce target) target).2 = true := by rw [aFT h hb]
   rw [aAL h0] at h3
   cases h3
 obtain ⟨h1, h2⟩ := aDc h0
 exact ⟨_, h2, h1⟩
theorem aOB {m : List Bk} {i : Nat} {X s : Bk} (hm : ∀ x ∈ m, x.d.length ≤ 4100) (hX : X.d.length ≤ 100000) (hs : s.d.length ≤ 100000) : ∀ x ∈ gN (m.set i X) s, x.d.length ≤ 100000 := fun x hx => by
 have hset : ∀ x ∈ m.set i X, x.d.length ≤ 100000 := fun x hx => by
  rcases List.mem_or_eq_of_mem_set hx with hx | rfl
  ·
   have := hm x hx
   omega
  · exact hX
 unfold gN at hx
 rcases List.mem_append.1 hx with hx | hx
 ·
  rcases List.mem_append.1 hx with hx | hx
  · exact hset x (List.mem_of_mem_take hx)
  ·
   rw [List.mem_singleton.1 hx]
   exact hs
 · exact hset x (List.mem_of_mem_drop hx)
theorem aOv (h : (dT p l e vr fl key nonce target).2.2 = 0) : (gT l e vr fl nonce target).d.length ≤ 100000 := by
 obtain ⟨_, he, _, hs, _⟩ := aAZ h
 obtain ⟨_, _, hn⟩ := pN hs
 have h1 := aAG vr
 exact aGu (aGm he) oW (by rw [Eng.iL]; omega)
theorem aMv {m : List Bk} {i : Nat} {x : Bk} (hi : gH m target = (i : Int)) (hx : m[i]? = some x) (hn : ((dX l : Int) == target) = false) : ∃ j : Nat, gH (aMV l e vr fl nonce target m i x) target = (j : Int) ∧ j < (aMV l e vr fl nonce target m i x).length := by
 have hg : aJ (aMV l e vr fl nonce target m i x) target = (x.withD (Eng.aI 1 (aJ l target).1.d.length), true) := (aDe (x := gT l e vr fl nonce target) hn).trans (sX hi hx)
 obtain ⟨j, y, hj, hy, _⟩ := mG (l := aMV l e vr fl nonce target m i x) (t := target) (by rw [hg])
 exact ⟨j, hj, (List.getElem?_eq_some_iff.1 hy).1⟩
theorem aMt {U : View} {eb ib : Nat} {key2 : List UInt8} (hg : aBV U eb ib) (hT : aNZ U ib [aKb p l vr fl key nonce target]) : aNK U eb key2 (opE p l vr fl key nonce target key2) := fun W hW v nn wt t g _ _ =>
 aJu v key2 nn wt t g eb ib [aKb p l vr fl key nonce target] W hW hg hT
theorem aMu {key2 : List UInt8} (hd : (aJ l target).1.d.length ≤ 100000) (v : Int) (nn wt m g : List UInt8) : (opE p l vr fl key nonce target key2 v nn wt m g).1.length ≤ R47 := by
 have hR : (100000 : Nat) ≤ R47 := by decide
 have h1 : (iO [aKb p l vr fl key nonce target] v key2 nn wt m g).1.length ≤ R47 := by
  unfold iO
  split
  ·
   next x hx =>
   rw [List.mem_singleton.1 (List.mem_of_find?_eq_some hx)]
   exact Nat.le_trans hd hR
  · exact Nat.zero_le _
 unfold opE sY
 split
 · exact Nat.zero_le _
 ·
  split
  · exact Nat.zero_le _
  · exact h1
theorem aL0 {V : View} {ib : Nat} {a : Option Addr} {c : Nat} {ent : En} (h1 : V ⟨ib, 0, none⟩ = some (.slice a 1 c)) (h2 : qB V a ent.cs) : aNZ V ib [ent] := by
 obtain ⟨b, rfl, hr⟩ := h2.at_ (by unfold En.cs aMW; simp)
 refine ⟨_, c, h1, fun i x hx => ?_, (show (1 : Nat) ≤ R47 by decide)⟩
 cases i with
 | zero =>
  obtain rfl := Option.some.inj hx
  exact ⟨b, 0, _, rfl, hr, rfl⟩
 | succ i => simp at hx
end
end Go.Proofs.YtcdjakemdlinhaaGreatDoor.Sx
