/-
  Several texts in one: Ps2 Rd7 Pt1 Asd Ast Sx21 Asb1 Asb2 Asb3 Asb4 Asb5 Asb6.
  Conditions: named at each.
-/
import Derived.Test.YtcdjakemdlinhaaGreatDoorG06
set_option maxHeartbeats 16000000
set_option linter.unusedSimpArgs false
set_option linter.unusedVariables false
set_option linter.unusedSectionVars false
namespace Go.Proofs.YtcdjakemdlinhaaGreatDoor.Sx
open Go.ChangeShapes Go.WideShapes Go.ChangeAt Go.RowKit Go.Deep
def aDq (s : List UInt8) : Bool := match hdF s with
 | some (m, _, o, _) => ((m : Int) == 7) && o
 | none => false
theorem aG7 (ps : Ps) (p : Nat) (hp : ps.ok) (hx : hdF ps.rest = none) {W0 : Cx} {U : View} {σF : aF} {W : World} (hM : Mem W0 U ([(p, ps.O)] ++ σF) W) : CP 242 #[.pointer (some ⟨p, 0, none⟩)] W (fN W0 U σF fun v _ σ' => v = .bool (aDq ps.rest) ∧ σ' = [(p, ps.O)]) := by
 have hM2 : Mem W0 U ([(bK p [(St ps.b),(I6 (ps.at_ : Int)),(I6 ps.e)] 245)] ++ σF) W := hM.eqv kR
 refine eC 18 Tryz.func242 hM2 ?_
 refine zQ 1 (zn (zQ 1 (dI 0 (fun W hM => dD ps p hp hM) (fun v0 V0 s0 hV0 hP0 => ?_))))
 obtain ⟨r0,rfl,rfl⟩ := hP0
 refine gF 0 (r0,(Rd.new ps.rest).O) 212 #[(Pt r0 0)] (pH r0 ps.rest (none)) (fun W hM => hx ▸ dQ ps.rest r0 (Ps.rest_len hp) hM) (fun v1 V1 s1 hV1 hP1 => ?_)
 obtain ⟨rfl,rfl⟩ := hP1
 refine zq 7 (zn (zQ 6 (zn (aA (aH [2] [(.bool false)] (fun W' hM => ?_))))))
 have hM3 := hM.perm (List.Perm.swap _ _ _)
 exact pR [(bK p [(St ps.b),(I6 (ps.at_ : Int)),(I6 ps.e)] 245)] [(r0,(hdR ps.rest (none)).O)] hM3 kR (View.le_trans hV0 hV1) ⟨by simp only [aDq,hx,cG,bs,bQ,reduceIte],by kernel_rfl⟩
theorem aG6 (ps : Ps) (p : Nat) (m n z : Nat) (o : Bool) (hp : ps.ok) (hx : hdF ps.rest = some (m, n, o, z)) {W0 : Cx} {U : View} {σF : aF} {W : World} (hM : Mem W0 U ([(p, ps.O)] ++ σF) W) : CP 242 #[.pointer (some ⟨p, 0, none⟩)] W (fN W0 U σF fun v _ σ' => v = .bool (aDq ps.rest) ∧ σ' = [(p, ps.O)]) := by
 have hM2 : Mem W0 U ([(bK p [(St ps.b),(I6 (ps.at_ : Int)),(I6 ps.e)] 245)] ++ σF) W := hM.eqv kR
 refine eC 18 Tryz.func242 hM2 ?_
 refine zQ 1 (zn (zQ 1 (dI 0 (fun W hM => dD ps p hp hM) (fun v0 V0 s0 hV0 hP0 => ?_))))
 obtain ⟨r0,rfl,rfl⟩ := hP0
 refine gF 0 (r0,(Rd.new ps.rest).O) 212 #[(Pt r0 0)] (pH r0 ps.rest (some (m,n,o,z))) (fun W hM => hx ▸ dQ ps.rest r0 (Ps.rest_len hp) hM) (fun v1 V1 s1 hV1 hP1 => ?_)
 obtain ⟨rfl,rfl⟩ := hP1
 refine zq 7 (zn (zQ 3 (aK 15 ((m : Int) == 7) (fun h0 => ?_) (fun h0 => ?_))))
 ·
  refine zq 3 (zn (aA (aH [2] [(.bool o)] (fun W' hM => ?_))))
  have hM3 := hM.perm (List.Perm.swap _ _ _)
  exact pR [(bK p [(St ps.b),(I6 (ps.at_ : Int)),(I6 ps.e)] 245)] [(r0,(hdR ps.rest (some (m,n,o,z))).O)] hM3 kR (View.le_trans hV0 hV1) ⟨by simp only [aDq,hx,cG,h0,bs,bQ,reduceIte],by kernel_rfl⟩
 ·
  refine zq 3 (zn (aA (aH [2] [(.bool false)] (fun W' hM => ?_))))
  have hM3 := hM.perm (List.Perm.swap _ _ _)
  exact pR [(bK p [(St ps.b),(I6 (ps.at_ : Int)),(I6 ps.e)] 245)] [(r0,(hdR ps.rest (some (m,n,o,z))).O)] hM3 kR (View.le_trans hV0 hV1) ⟨by simp only [aDq,hx,cG,h0,bs,bQ,reduceIte],by kernel_rfl⟩
theorem aKL (rd : Rd) (r : Nat) (w : World) {U : View} (hU : See U w) (hr : U.range r 0 rd.cs) : CP 214 #[.pointer (some ⟨r, 0, none⟩)] w (Ret (.int .i64 (rd.at_ : Int)) w) := by
 refine eG 7 Tryz.func214 hU ?_
 refine zQ 1 (zn (zQ 3 (zV r (0 + 1) (I6 (rd.at_ : Int)) (hr 1 _ rfl) 3 (.tmp 5) _ Tryz.underlying3 rfl ?_)))
 refine zq 1 (zn (aA (jJ 2)))
def aBN (s : List UInt8) (n z : Nat) (o : Bool) (most : Nat) : List UInt8 × Rd :=
 if o then ([], ⟨s, 0, 0, 2, 0⟩) else if decide ((n : Int) > (((s).length : Nat) : Int) - (z : Int)) then ([], ⟨s, 0, 0, 2, 0⟩) else if decide ((n : Int) > (most : Int)) then ([], ⟨s, 0, 0, 4, 0⟩) else ((s.drop z).take n, ⟨s, z + n, -1, 0, 0⟩)
def aJ1 (r : Nat) (x : List UInt8 × Rd) (v : Value) (_ : View) (σ : aF) : Prop := v = .string (B x.1) ∧ σ = [(r, x.2.O)]
theorem aFZ (s : List UInt8) (r k n z most : Nat) (o : Bool) (hx : hdF s = some (k, n, o, z)) (hlen : s.length ≤ R47) (hmost : most ≤ 2000000000) {W0 : Cx} {U : View} {σF : aF} {W : World} (hM : Mem W0 U ([(r, (Rd.new s).O)] ++ σF) W) :
  CP 250 #[.pointer (some ⟨r, 0, none⟩), .int .i64 (k : Int), .int .i64 (most : Int)] W (fN W0 U σF (aJ1 r (aBN s n z o most))) := by
 unfold aBN
 cases o with
 | true => exact aIF s r k n z most hx hlen hmost hM
 | false =>
  cases h1 : decide ((n : Int) > (((s).length : Nat) : Int) - (z : Int)) with
  | true => exact aGR s r k n z most hx hlen hmost h1 hM
  | false =>
   cases h2 : decide ((n : Int) > (most : Int)) with
   | true => exact aIG s r k n z most hx hlen hmost h1 h2 hM
   | false => exact aMl s r k n z most hx hlen hmost h1 h2 hM
theorem aGY (s : List UInt8) (r n z most : Nat) (o : Bool) (hx : hdF s = some (2, n, o, z)) (hlen : s.length ≤ R47) (hmost : most ≤ 2000000000) {W0 : Cx} {U : View} {σF : aF} {W : World} (hM : Mem W0 U ([(r, (Rd.new s).O)] ++ σF) W) : CP 239 #[.pointer (some ⟨r, 0, none⟩), .int .i64 (most : Int)] W (fN W0 U σF (aJ1 r (aBN s n z o most))) := by
 refine eC 8 Tryz.func239 hM ?_
 refine zQ 1 (zn (zQ 2 (dI 0 (fun W hM => aFZ s r 2 n z most o hx hlen hmost hM) (fun v0 V0 s0 hV0 hP0 => ?_))))
 obtain ⟨rfl,rfl⟩ := hP0
 refine zq 1 (zn (aA (aH [4] [(St (aBN s n z o most).1)] (fun W' hM => ?_))))
 exact dJ (σ' := [(r,(aBN s n z o most).2.O)]) hM hV0 ⟨rfl,rfl⟩
theorem aID (s : List UInt8) (r n z most : Nat) (o : Bool) (hx : hdF s = some (3, n, o, z)) (hlen : s.length ≤ R47) (hmost : most ≤ 2000000000) {W0 : Cx} {U : View} {σF : aF} {W : World} (hM : Mem W0 U ([(r, (Rd.new s).O)] ++ σF) W) : CP 240 #[.pointer (some ⟨r, 0, none⟩), .int .i64 (most : Int)] W (fN W0 U σF (aJ1 r (aBN s n z o most))) := by
 refine eC 8 Tryz.func240 hM ?_
 refine zQ 1 (zn (zQ 2 (dI 0 (fun W hM => aFZ s r 3 n z most o hx hlen hmost hM) (fun v0 V0 s0 hV0 hP0 => ?_))))
 obtain ⟨rfl,rfl⟩ := hP0
 refine zq 1 (zn (aA (aH [4] [(St (aBN s n z o most).1)] (fun W' hM => ?_))))
 exact dJ (σ' := [(r,(aBN s n z o most).2.O)]) hM hV0 ⟨rfl,rfl⟩
def gR (f : List UInt8 → Option (Itm.Tr × Nat)) : Nat → List UInt8 → Option (List Itm.Tr × Nat)
 | 0, _ => some ([], 0)
 | n + 1, s => match f s with
  | none => none
  | some (t, k) => match gR f n (s.drop k) with
   | none => none
   | some (ts, j) => some (t :: ts, k + j)
def oP (f : List UInt8 → Option (Itm.Tr × Nat)) : Nat → List UInt8 → Option (List Itm.Tr × Nat)
 | 0, s => if aDq s then some ([], 1) else none
 | n + 1, s => if aDq s then some ([], 1) else match f s with
  | none => none
  | some (t, k) => match oP f n (s.drop k) with
   | none => none
   | some (ts, j) => some (t :: ts, k + j)
def lT (m : Int) (x : List UInt8 × Rd) : Option (Itm.Tr × Nat) := if x.2.e == 0 then some (.mk m 0 x.1 [] false, x.2.at_) else none
def pG (o : Bool) (z : Nat) : Option (List Itm.Tr × Nat) → Option (Itm.Tr × Nat)
 | none => none
 | some (l, k) => some (.mk 4 0 [] l o, z + k)
def itF : Nat → List UInt8 → Option (Itm.Tr × Nat)
 | 0, _ => none
 | d + 1, s => match hdF s with
  | none => none
  | some (m, n, o, z) =>
   if m = 0 then some (.mk 0 n [] [] false, z)
   else if m = 2 then lT 2 (aBN s n z o 1073741824)
   else if m = 3 then lT 3 (aBN s n z o 1073741824)
   else if m = 4 then (if o then pG true z (oP (itF d) 1000 (s.drop z)) else if n ≤ 1000 then pG false z (gR (itF d) n (s.drop z)) else none)
   else none
theorem aHg {l : List UInt8} (h : l.length ≤ 8) : fJ 0 l < 18446744073709551616 := by
 have h1 := qK l 0 0 (by simp)
 have h2 : 256 ^ (0 + l.length) ≤ 256 ^ 8 := Nat.pow_le_pow_right (by decide) oW
 have h3 : (256 : Nat) ^ 8 = 18446744073709551616 := by decide
 omega
theorem aNw {s : List UInt8} {m n z : Nat} {o : Bool} (h : hdF s = some (m, n, o, z)) : n < 18446744073709551616 ∧ m < 8 := by
 unfold hdF at h
 split at h
 · cases h
 ·
  next c hc =>
  have hc2 := c.toNat_lt
  unfold hd1 at h
  split at h
  ·
   simp only [Option.some.injEq, Prod.mk.injEq] at h
   omega
  ·
   split at h
   ·
    simp only [Option.some.injEq, Prod.mk.injEq] at h
    omega
   ·
    split at h
    · cases h
    ·
     unfold hd2 at h
     split at h
     · cases h
     ·
      split at h
      · cases h
      ·
       simp only [Option.some.injEq, Prod.mk.injEq] at h
       obtain ⟨rfl, rfl, -, -⟩ := h
       refine ⟨aHg ?_, by omega⟩
       rw [List.length_take]
       have : 2 ^ (c.toNat % 32 - 24) ≤ 2 ^ 3 := Nat.pow_le_pow_right (by decide) oW
       omega
theorem aGs {s : List UInt8} (h : aDq s = true) : 1 ≤ s.length := by
 unfold aDq at h
 split at h
 ·
  next m n o z hx =>
  have := iT hx
  omega
 · cases h
theorem rJ {f : List UInt8 → Option (Itm.Tr × Nat)} (hf : ∀ s t k, f s = some (t, k) → k ≤ s.length) : ∀ (n : Nat) (s : List UInt8) (l : List Itm.Tr) (k : Nat), gR f n s = some (l, k) → k ≤ s.length ∧ l.length = n
 | 0, s, l, k, h => by
  rw [gR] at h
  simp only [Option.some.injEq, Prod.mk.injEq] at h
  obtain ⟨rfl, rfl⟩ := h
  exact ⟨Nat.zero_le _, rfl⟩
 | n + 1, s, l, k, h => by
  rw [gR] at h
  split at h
  · cases h
  ·
   next t k1 h1 =>
   split at h
   · cases h
   ·
    next ts j h2 =>
    simp only [Option.some.injEq, Prod.mk.injEq] at h
    obtain ⟨rfl, rfl⟩ := h
    have a1 := hf _ _ _ h1
    have a2 := rJ hf n _ _ _ h2
    rw [List.length_drop] at a2
    exact ⟨by omega, by rw [List.length_cons, a2.2]⟩
theorem aBk {f : List UInt8 → Option (Itm.Tr × Nat)} (hf : ∀ s t k, f s = some (t, k) → k ≤ s.length) : ∀ (n : Nat) (s : List UInt8) (l : List Itm.Tr) (k : Nat), oP f n s = some (l, k) → k ≤ s.length ∧ l.length ≤ n
 | 0, s, l, k, h => by
  rw [oP] at h
  split at h
  ·
   next hb =>
   simp only [Option.some.injEq, Prod.mk.injEq] at h
   obtain ⟨rfl, rfl⟩ := h
   exact ⟨aGs hb, Nat.le_refl _⟩
  · cases h
 | n + 1, s, l, k, h => by
  rw [oP] at h
  split at h
  ·
   next hb =>
   simp only [Option.some.injEq, Prod.mk.injEq] at h
   obtain ⟨rfl, rfl⟩ := h
   exact ⟨aGs hb, Nat.zero_le _⟩
  ·
   split at h
   · cases h
   ·
    next t k1 h1 =>
    split at h
    · cases h
    ·
     next ts j h2 =>
     simp only [Option.some.injEq, Prod.mk.injEq] at h
     obtain ⟨rfl, rfl⟩ := h
     have a1 := hf _ _ _ h1
     have a2 := aBk hf n _ _ _ h2
     rw [List.length_drop] at a2
     exact ⟨by omega, by rw [List.length_cons]; omega⟩
theorem aAF {s : List UInt8} {m n z most : Nat} {o : Bool} (h : hdF s = some (m, n, o, z)) : (aBN s n z o most).2.at_ ≤ s.length ∧ (aBN s n z o most).1.length ≤ s.length := by
 have hz := iT h
 unfold aBN
 split
 · exact ⟨Nat.zero_le _, Nat.zero_le _⟩
 ·
  split
  · exact ⟨Nat.zero_le _, Nat.zero_le _⟩
  ·
   next h1 =>
   simp only [decide_eq_true_eq] at h1
   split
   · exact ⟨Nat.zero_le _, Nat.zero_le _⟩
   ·
    refine ⟨?_, ?_⟩
    ·
     show z + n ≤ s.length
     omega
    ·
     show ((s.drop z).take n).length ≤ _
     rw [List.length_take, List.length_drop]
     omega
theorem rG : ∀ (d : Nat) (s : List UInt8) (t : Itm.Tr) (k : Nat), itF d s = some (t, k) → k ≤ s.length
 | 0, s, t, k, h => by rw [itF] at h; cases h
 | d + 1, s, t, k, h => by
  rw [itF] at h
  split at h
  · cases h
  ·
   next m n o z hx =>
   have hz := iT hx
   split at h
   ·
    simp only [Option.some.injEq, Prod.mk.injEq] at h
    omega
   ·
    split at h
    ·
     unfold lT at h
     split at h
     ·
      simp only [Option.some.injEq, Prod.mk.injEq] at h
      rw [← h.2]
      exact (aAF hx).1
     · cases h
    ·
     split at h
     ·
      unfold lT at h
      split at h
      ·
       simp only [Option.some.injEq, Prod.mk.injEq] at h
       rw [← h.2]
       exact (aAF hx).1
      · cases h
     ·
      split at h
      ·
       split at h
       ·
        cases hq : oP (itF d) 1000 (s.drop z) with
        | none => rw [hq] at h; cases h
        | some q =>
         obtain ⟨l, j⟩ := q
         rw [hq] at h
         simp only [pG, Option.some.injEq, Prod.mk.injEq] at h
         have := (aBk (rG d) _ _ _ _ hq).1
         rw [List.length_drop] at this
         omega
       ·
        split at h
        ·
         cases hq : gR (itF d) n (s.drop z) with
         | none => rw [hq] at h; cases h
         | some q =>
          obtain ⟨l, j⟩ := q
          rw [hq] at h
          simp only [pG, Option.some.injEq, Prod.mk.injEq] at h
          have := (rJ (rG d) _ _ _ _ hq).1
          rw [List.length_drop] at this
          omega
        · cases h
      · cases h
theorem aGa (n : Nat) : ∀ (k a : Nat), fJ a (Itm.dg n k) = a * 256 ^ k + n % 256 ^ k
 | 0, a => by simp [Itm.dg, fJ, Nat.mod_one]
 | k + 1, a => by
  have h := aGa n k (a * 256 + (UInt8.ofNat (n / 256 ^ k)).toNat)
  rw [Itm.dg]
  show fJ (a * 256 + (UInt8.ofNat (n / 256 ^ k)).toNat) (Itm.dg n k) = _
  rw [h]
  have e : (UInt8.ofNat (n / 256 ^ k)).toNat = n / 256 ^ k % 256 := by simp
  rw [e, Nat.pow_succ]
  have h1 : n % (256 ^ k * 256) = n % 256 ^ k + 256 ^ k * (n / 256 ^ k % 256) := Nat.mod_mul
  rw [h1, Nat.add_mul, Nat.mul_assoc, Nat.mul_comm 256 (256 ^ k), Nat.mul_comm (n / 256 ^ k % 256) (256 ^ k)]
  omega
theorem jH (m n : Nat) (r : List UInt8) (hm : m ≤ 7) (hn : n < 18446744073709551616) : hdF (Itm.aD m n ++ r) = some (m, n, false, (Itm.aD m n).length) := by
 have hlen : (Itm.aD m n).length = 1 + Itm.aEF n := by rw [Itm.aGg, List.length_cons, Itm.dT, Nat.add_comm]
 rw [hlen]
 have hs : Itm.aD m n ++ r = UInt8.ofNat (32 * m + Itm.pX n) :: (Itm.dg n (Itm.aEF n) ++ r) := by rw [Itm.aGg, List.cons_append]
 have hcl := Itm.aLu n
 have hb : (UInt8.ofNat (32 * m + Itm.pX n)).toNat = 32 * m + Itm.pX n := by
  rw [UInt8.toNat_ofNat']
  exact Nat.mod_eq_of_lt oW
 unfold hdF
 rw [hs]
 simp only [List.getElem?_cons_zero]
 rw [hb, show (32 * m + Itm.pX n) / 32 = m by omega, show (32 * m + Itm.pX n) % 32 = Itm.pX n by omega]
 by_cases h24 : n < 24
 ·
  have e1 : Itm.pX n = n := by unfold Itm.pX; rw [if_pos h24]
  have e2 : Itm.aEF n = 0 := by unfold Itm.aEF; rw [if_pos h24]
  unfold hd1
  rw [e1, if_pos h24, e2]
 ·
  have e1 : ¬ Itm.pX n < 24 ∧ Itm.aEF n = 2 ^ (Itm.pX n - 24) ∧ Itm.aEF n ≤ 8 ∧ n < 256 ^ Itm.aEF n := by
   unfold Itm.pX Itm.aEF
   rw [if_neg h24, if_neg h24]
   by_cases a1 : n < 256
   · rw [if_pos a1, if_pos a1]; exact ⟨by omega, by decide, by decide, by omega⟩
   ·
    rw [if_neg a1, if_neg a1]
    by_cases a2 : n < 65536
    · rw [if_pos a2, if_pos a2]; exact ⟨by omega, by decide, by decide, by omega⟩
    ·
     rw [if_neg a2, if_neg a2]
     by_cases a3 : n < 4294967296
     · rw [if_pos a3, if_pos a3]; exact ⟨by omega, by decide, by decide, by omega⟩
     · rw [if_neg a3, if_neg a3]; exact ⟨by omega, by decide, by decide, by omega⟩
  obtain ⟨e1, e2, e3, e4⟩ := e1
  unfold hd1
  rw [if_neg e1, if_neg oW, if_neg oW, ← e2]
  unfold hd2
  have ht : ((UInt8.ofNat (32 * m + Itm.pX n) :: (Itm.dg n (Itm.aEF n) ++ r)).drop 1).take (Itm.aEF n) = Itm.dg n (Itm.aEF n) := by
   rw [List.drop_succ_cons, List.drop_zero, List.take_left' (Itm.dT _ _)]
  have hj : fJ 0 (Itm.dg n (Itm.aEF n)) = n := by
   rw [aGa, Nat.zero_mul, Nat.zero_add, Nat.mod_eq_of_lt e4]
  rw [ht, hj, hlen]
  have hl : (UInt8.ofNat (32 * m + Itm.pX n) :: (Itm.dg n (Itm.aEF n) ++ r)).length = 1 + Itm.aEF n + r.length := by
   rw [List.length_cons, List.length_append, Itm.dT]; omega
  rw [hl, decide_eq_false oW]
  simp
theorem aJr (m : Nat) (r : List UInt8) (hm : m ≤ 7) (ho : pS (m : Int) = true) : hdF (UInt8.ofNat (32 * m + 31) :: r) = some (m, 0, true, 1) := by
 have hb : (UInt8.ofNat (32 * m + 31)).toNat = 32 * m + 31 := by
  rw [UInt8.toNat_ofNat']
  exact Nat.mod_eq_of_lt oW
 unfold hdF
 simp only [List.getElem?_cons_zero]
 rw [hb, show (32 * m + 31) / 32 = m by omega, show (32 * m + 31) % 32 = 31 by omega]
 unfold hd1
 rw [if_neg (by decide), if_pos ⟨rfl, ho⟩]
theorem aGt (r : List UInt8) : aDq (255 :: r) = true := by
 have h := aJr 7 r (by decide) (by decide)
 have h' : hdF (255 :: r) = some (7, 0, true, 1) := h
 unfold aDq
 rw [h']
 rfl
theorem aHv {t : Itm.Tr} (h : Itm.sK t = true) (hn : Itm.NOk t) (hl : t.l.length < 18446744073709551616) (r : List UInt8) : aDq (Itm.aE t ++ r) = false := by
 cases hn with
 | mk k n s l o hn hs hel =>
 unfold aDq
 cases Itm.aJw h with
 | num n => rw [Itm.aEs, jH 0 n r (by decide) hn]; rfl
 | str s => rw [Itm.aBC, List.append_assoc, jH 2 _ _ (by decide) hs]; rfl
 | text s => rw [Itm.aAe, List.append_assoc, jH 3 _ _ (by decide) hs]; rfl
 | arr l _ =>
  have hl2 : l.length < 18446744073709551616 := hl
  rw [Itm.aBD, List.append_assoc, jH 4 _ _ (by decide) hl2]; rfl
 | opn l => rw [Itm.tH, List.cons_append, aJr 4 _ (by decide) (by decide)]; rfl
theorem tG {f : List UInt8 → Option (Itm.Tr × Nat)} : ∀ (l : List Itm.Tr) (r : List UInt8), (∀ x ∈ l, ∀ r, f (Itm.aE x ++ r) = some (x, (Itm.aE x).length)) → gR f l.length (Itm.dG l ++ r) = some (l, (Itm.dG l).length)
 | [], r, _ => by rw [List.length_nil, gR, Itm.dG]; rfl
 | x :: l, r, h => by
  rw [List.length_cons, gR, Itm.dG, List.append_assoc, h x (List.mem_cons_self) _]
  simp only
  rw [List.drop_left, tG l r fun y hy => h y (List.mem_cons_of_mem _ hy)]
  simp only [List.length_append]
theorem aBl {f : List UInt8 → Option (Itm.Tr × Nat)} : ∀ (l : List Itm.Tr) (m : Nat) (r : List UInt8), l.length ≤ m → (∀ x ∈ l, ∀ r, f (Itm.aE x ++ r) = some (x, (Itm.aE x).length)) → (∀ x ∈ l, ∀ r, aDq (Itm.aE x ++ r) = false) → oP f m (Itm.dG l ++ (255 :: r)) = some (l, (Itm.dG l).length + 1)
 | [], m, r, _, _, _ => by
  rw [Itm.dG, List.nil_append]
  cases m with
  | zero => rw [oP, if_pos (aGt r)]; rfl
  | succ m => rw [oP, if_pos (aGt r)]; rfl
 | x :: l, 0, r, hm, _, _ => by simp at hm
 | x :: l, m + 1, r, hm, h, hb => by
  rw [oP, Itm.dG, List.append_assoc, if_neg (by rw [hb x List.mem_cons_self]; exact Bool.false_ne_true), h x List.mem_cons_self _]
  simp only
  rw [List.drop_left, aBl l m r (by rw [List.length_cons] at hm; omega) (fun y hy => h y (List.mem_cons_of_mem _ hy)) fun y hy => hb y (List.mem_cons_of_mem _ hy)]
  simp only [List.length_append, Nat.add_assoc]
theorem aB2 (k : Nat) (s r : List UInt8) (hl : s.length ≤ 1073741824) : aBN (Itm.aD k s.length ++ (s ++ r)) s.length (Itm.aD k s.length).length false 1073741824 = (s, ⟨Itm.aD k s.length ++ (s ++ r), (Itm.aD k s.length).length + s.length, -1, 0, 0⟩) := by
 unfold aBN
 rw [if_neg Bool.false_ne_true, if_neg (by rw [decide_eq_true_eq, List.length_append, List.length_append]; omega), if_neg (by rw [decide_eq_true_eq]; omega), List.drop_left, List.take_left]
theorem aCC {l : List Itm.Tr} {x : Itm.Tr} (h : x ∈ l) : (Itm.aE x).length ≤ (Itm.dG l).length := by
 induction l with
 | nil => cases h
 | cons y l ih =>
  rw [Itm.dG, List.length_append]
  rcases List.mem_cons.1 h with rfl | h
  · omega
  ·
   have := ih h
   omega
theorem aIu {d : Nat} {t x : Itm.Tr} (h : Itm.aN (d + 1) t = true) (hx : x ∈ t.l) : Itm.aN d x = true := by
 rw [Itm.aN, Bool.and_eq_true, List.all_eq_true] at h
 exact h.2 x hx
theorem aA5 {d : Nat} {t : Itm.Tr} (h : Itm.aN d t = true) : Itm.sK t = true := by
 rw [Itm.aA6, Bool.and_eq_true] at h
 exact h.2
theorem aDG {d : Nat} {t : Itm.Tr} (h : Itm.aN d t = true) : t.l.length ≤ 1000 := by
 cases d with
 | zero => cases h
 | succ d =>
  rw [Itm.aN, Bool.and_eq_true] at h
  rcases Itm.oQ h.1 with ⟨_, _, h, _⟩ | ⟨_, _, h, _⟩ | ⟨_, _, h, _⟩ | ⟨_, _, _, h⟩ <;> omega
theorem aBs : ∀ (d : Nat) (t : Itm.Tr) (r : List UInt8), Itm.aN d t = true → Itm.NOk t → (Itm.aE t).length ≤ 1073741824 → itF d (Itm.aE t ++ r) = some (t, (Itm.aE t).length)
 | 0, t, r, h, _, _ => by cases h
 | d + 1, t, r, h, hn, hb => by
  have hlen := aDG h
  have hpl := aA5 h
  have hsub : ∀ x ∈ t.l, Itm.aN d x = true := fun x hx => aIu h hx
  cases hn with
  | mk k n s l o hn hs hel =>
  have helm : ∀ x ∈ l, Itm.NOk x := fun x hx => by
   obtain ⟨i, hi⟩ := List.mem_iff_getElem?.1 hx
   exact hel i x hi
  have hsub' : ∀ x ∈ l, Itm.aN d x = true := hsub
  have hlen' : l.length ≤ 1000 := hlen
  rw [itF]
  cases Itm.aJw hpl with
  | num n =>
   rw [Itm.aEs, jH 0 n r (by decide) hn]
   rfl
  | str s =>
   rw [Itm.aBC, List.length_append] at hb
   rw [Itm.aBC, List.append_assoc, jH 2 _ _ (by decide) hs]
   simp only [Nat.reduceEqDiff, if_false, if_true]
   rw [aB2 2 s r oW]
   simp [lT]
  | text s =>
   rw [Itm.aAe, List.length_append] at hb
   rw [Itm.aAe, List.append_assoc, jH 3 _ _ (by decide) hs]
   simp only [Nat.reduceEqDiff, if_false, if_true]
   rw [aB2 3 s r oW]
   simp [lT]
  | arr l _ =>
   rw [Itm.aBD, List.length_append] at hb
   rw [Itm.aBD, List.append_assoc, jH 4 _ _ (by decide) oW]
   simp only [Nat.reduceEqDiff, if_false, if_true, Bool.false_eq_true]
   rw [if_pos hlen', List.drop_left, tG l r fun x hx r => aBs d x r (hsub' x hx) (helm x hx) (Nat.le_trans (aCC hx) oW)]
   simp [pG]
  | opn l =>
   rw [Itm.tH, List.length_cons, List.length_append] at hb
   rw [Itm.tH, List.cons_append, aJr 4 _ (by decide) (by decide)]
   simp only [Nat.reduceEqDiff, if_false, if_true]
   rw [List.drop_succ_cons, List.drop_zero, List.append_assoc, List.singleton_append, aBl l 1000 r hlen' (fun x hx r => aBs d x r (hsub' x hx) (helm x hx) (Nat.le_trans (aCC hx) oW)) fun x hx r => aHv (aA5 (hsub' x hx)) (helm x hx) (by have := aDG (hsub' x hx); omega) r]
   simp only [pG, List.length_cons, List.length_append, List.length_nil, Option.some.injEq, Prod.mk.injEq, true_and]
   omega
structure Pa where
 id : Int
 v : Itm.Tr
structure As where
 t : List Int
 c : Int
 s : Ei
 p : List Pa
 r : List (List Pa)
def Pa.tree (p : Pa) : Itm.Tr := Itm.dH [Itm.cN p.id.toNat, p.v]
def lR (l : List Pa) : Itm.Tr := Itm.dH (l.map Pa.tree)
def aLF (l : List Int) : Itm.Tr := Itm.dH (l.map fun n => Itm.cN n.toNat)
def As.items (a : As) : List Itm.Tr :=
 if a.p.length = 0 then [aLF a.t, Itm.cN a.c.toNat, Itm.cN 0, a.s.tree, Itm.dH (a.r.map lR)]
 else [aLF a.t, Itm.cN a.c.toNat, Itm.cN 1, a.s.tree, lR a.p, Itm.dH (a.r.map lR)]
def As.bytes (a : As) : List UInt8 := Itm.dG a.items
def gS (n : Int) : Bool := decide (n ≥ 0) && decide (n ≤ 65535)
def lI (pre : List Int) : List Int → Bool
 | [] => true
 | n :: r => if !gS n || pre.contains n then false else lI (pre ++ [n]) r
def jL (l : List Int) : Bool := lI [] l
def paB (p : Pa) : Bool := ((p.v.k == 0) || (p.v.k == 2)) && Itm.aN 8 p.v
def jB (l : List Pa) : Bool := l.all paB && jL (l.map Pa.id)
def aBP (l : List Pa) : Bool := decide (1 ≤ l.length) && decide (l.length ≤ 4) && jB l
def dV (a : As) : Bool := decide (1 ≤ a.t.length) && decide (a.t.length ≤ 16) && jL a.t && gS a.c && aX a.s && decide (a.p.length ≤ 8) && jB a.p && decide (a.r.length = a.t.length) && a.r.all aBP
def As.right (a : As) : Bool := dV a && decide (a.bytes.length ≤ 4000)
structure As.ok (a : As) : Prop where
 s : a.s.ok
 p : ∀ x ∈ a.p, Itm.NOk x.v
 r : ∀ l ∈ a.r, ∀ x ∈ l, Itm.NOk x.v
theorem mC {n : Int} (h : gS n = true) : 0 ≤ n ∧ n ≤ 65535 := by
 unfold gS at h
 simp only [Bool.and_eq_true, decide_eq_true_eq] at h
 omega
theorem rU : ∀ (l pre : List Int), lI pre l = true → ∀ n ∈ l, gS n = true
 | [], _, _, n, hn => by cases hn
 | m :: r, pre, h, n, hn => by
  rw [lI] at h
  split at h
  · cases h
  ·
   next hc =>
   rcases List.mem_cons.1 hn with rfl | hn
   ·
    cases hx : gS n with
    | true => rfl
    | false => rw [hx] at hc; simp at hc
   · exact rU r _ h n hn
theorem jT {l : List Int} (h : jL l = true) : ∀ n ∈ l, 0 ≤ n ∧ n ≤ 65535 := fun n hn => mC (rU l [] h n hn)
def aD1 {α β : Type} (f : α → Option β) : List α → Option (List β)
 | [] => some []
 | x :: l => match f x with
  | none => none
  | some y => match aD1 f l with
   | none => none
   | some r => some (y :: r)
theorem aAJ {α β : Type} {f : α → Option β} {g : β → α} : ∀ (l : List β), (∀ y ∈ l, f (g y) = some y) → aD1 f (l.map g) = some l
 | [], _ => rfl
 | y :: l, h => by
  rw [List.map_cons, aD1, h y List.mem_cons_self, aAJ l fun z hz => h z (List.mem_cons_of_mem _ hz)]
def aEE (x : Itm.Tr) : Option Int := if x.k == 0 then some ((min x.n 65536 : Nat) : Int) else none
def aDQ (y : Itm.Tr) : Option Pa := match y.l with
 | [u, v] => match aEE u with
  | none => none
  | some n => some ⟨n, v⟩
 | _ => none
def jA (x : Itm.Tr) : Option (List Pa) := aD1 aDQ x.l
def aEC (x : Itm.Tr) : Option (List Int) := aD1 aEE x.l
def aIw (x : Itm.Tr) : Option (List (List Pa)) := aD1 jA x.l
open Classical in
noncomputable def ofE (t : Itm.Tr) : Option Ei := if Itm.OfP t (Itm.iR t) then some ⟨(Itm.iR t).s, (Itm.iR t).l, (Itm.iR t).n, (Itm.iR t).v⟩ else none
noncomputable def aKc (t : List Int) (c : Int) (s : Ei) (p : List Pa) (r : Itm.Tr) : Option As := match aIw r with
 | none => none
 | some r => some ⟨t, c, s, p, r⟩
noncomputable def aNI (l : List Itm.Tr) (t : List Int) (c : Int) (s : Ei) : Option As := match l with
 | [r] => aKc t c s [] r
 | [p, r] => match jA p with
  | none => none
  | some p => aKc t c s p r
 | _ => none
noncomputable def aMY (l : List Itm.Tr) (t : List Int) (c : Int) : Option As := match l with
 | _ :: s :: l => match ofE s with
  | none => none
  | some s => aNI l t c s
 | _ => none
noncomputable def asR (l : List Itm.Tr) : Option As := if l.length = 5 ∨ l.length = 6 then (match l with
 | t :: c :: l => match aEC t with
  | none => none
  | some t => match aEE c with
   | none => none
   | some c => aMY l t c
 | _ => none) else none
theorem aC0 {n : Int} (h : 0 ≤ n ∧ n ≤ 65535) : aEE (Itm.cN n.toNat) = some n := by
 have e : min n.toNat 65536 = n.toNat := Nat.min_eq_left oW
 show (if (0 : Int) == 0 then some ((min n.toNat 65536 : Nat) : Int) else none) = some n
 rw [e]
 show some (n.toNat : Int) = some n
 congr 1
 omega
theorem aKj {l : List Int} (h : ∀ n ∈ l, 0 ≤ n ∧ n ≤ 65535) : aEC (aLF l) = some l := aAJ l fun n hn => aC0 (h n hn)
theorem iB {l : List Pa} (h : jB l = true) : ∀ p ∈ l, 0 ≤ p.id ∧ p.id ≤ 65535 := fun p hp => by
 unfold jB at h
 rw [Bool.and_eq_true] at h
 exact jT h.2 p.id (List.mem_map_of_mem hp)
theorem aCd {l : List Pa} (h : ∀ p ∈ l, 0 ≤ p.id ∧ p.id ≤ 65535) : jA (lR l) = some l := aAJ l fun p hp => by
 show (match aEE (Itm.cN p.id.toNat) with | none => none | some n => some (⟨n, p.v⟩ : Pa)) = some p
 rw [aC0 (h p hp)]
theorem aK0 {e : Ei} (h : aX e = true) (hr : Itm.aN 8 e.tree = true) : ofE e.tree = some e := by
 obtain ⟨s, l, n, v⟩ := e
 have hs : s = 1 ∨ s = 2 := by
  unfold aX Eid.gM at h
  simp only at h
  split at h
  · next hs => exact .inl hs
  ·
   split at h
   · next hs => exact .inr hs
   · cases h
 obtain ⟨k, rfl⟩ : ∃ k : Nat, s = (k : Int) := by
  rcases hs with rfl | rfl
  · exact ⟨1, rfl⟩
  · exact ⟨2, rfl⟩
 have hk : k = 1 ∨ k = 2 := by omega
 have ht : (⟨(k : Int), l, n, v⟩ : Ei).tree = (⟨k, l, n, v⟩ : Itm.Nm).tree := by
  unfold Ei.tree Itm.Nm.tree Itm.aK5 Itm.aNT
  rcases hk with rfl | rfl
  ·
   by_cases hl : l = [110, 111, 110, 101]
   · subst hl; rfl
   ·
    have hb : (l == [110, 111, 110, 101]) = false := beq_eq_false_iff_ne.2 hl
    simp only [hb, hl]
    rfl
  · rfl
 have h' : (⟨k, l, n, v⟩ : Itm.Nm).right = true := h
 have hrd := Itm.aGP h'
 unfold ofE
 rw [ht] at hr ⊢
 rw [hrd, if_pos ⟨h', hr, rfl⟩]
theorem aJX {a : As} (h : dV a = true) (hn : Itm.aN 8 a.s.tree = true) : asR a.items = some a := by
 unfold dV at h
 simp only [Bool.and_eq_true, decide_eq_true_eq] at h
 obtain ⟨⟨⟨⟨⟨⟨⟨⟨h1, h2⟩, h3⟩, h4⟩, h5⟩, h6⟩, h7⟩, h8⟩, h9⟩ := h
 have t1 := aKj (jT h3)
 have t2 := aC0 (mC h4)
 have t3 := aK0 h5 hn
 have t4 := aCd (iB h7)
 have t5 : aIw (Itm.dH (a.r.map lR)) = some a.r := aAJ a.r fun l hl => aCd (iB (by
  have := List.all_eq_true.1 h9 l hl
  unfold aBP at this
  rw [Bool.and_eq_true] at this
  exact this.2))
 obtain ⟨t, c, s, p, r⟩ := a
 unfold As.items
 simp only at t1 t2 t3 t4 t5 ⊢
 by_cases hp : p.length = 0
 ·
  obtain rfl := List.length_eq_zero_iff.1 hp
  rw [if_pos hp]
  unfold asR
  rw [if_pos (.inl rfl)]
  simp only [t1, t2, aMY, t3, aNI, aKc, t5]
 ·
  rw [if_neg hp]
  unfold asR
  rw [if_pos (.inr rfl)]
  simp only [t1, t2, aMY, t3, aNI, t4, aKc, t5]
theorem iA {d : Nat} {l : List Itm.Tr} (hl : l.length ≤ 1000) (h : ∀ x ∈ l, Itm.aN d x = true) : Itm.aN (d + 1) (Itm.dH l) = true := by
 rw [Itm.aN, Bool.and_eq_true, List.all_eq_true]
 refine ⟨?_, h⟩
 show Itm.okN 4 0 [] l.length false = true
 unfold Itm.okN
 simp [hl]
theorem fF (d n : Nat) : Itm.aN (d + 1) (Itm.cN n) = true := by
 rw [Itm.aN]
 rfl
theorem aEX {v : Itm.Tr} {d : Nat} (hk : (v.k == 0 || v.k == 2) = true) (h : Itm.aN 8 v = true) : Itm.aN (d + 1) v = true := by
 rw [Itm.aN, Bool.and_eq_true] at h ⊢
 refine ⟨h.1, ?_⟩
 have hl : v.l.length = 0 := by
  rcases Itm.oQ h.1 with ⟨_, _, h, _⟩ | ⟨_, _, h, _⟩ | ⟨_, _, h, _⟩ | ⟨h, _⟩
  · exact h
  · exact h
  · exact h
  · rw [h] at hk; cases hk
 rw [List.length_eq_zero_iff.1 hl]
 rfl
theorem aCb {d : Nat} {l : List Pa} (hl : l.length ≤ 1000) (h : jB l = true) : Itm.aN (d + 3) (lR l) = true := by
 unfold jB at h
 rw [Bool.and_eq_true] at h
 refine iA (by rw [List.length_map]; exact hl) fun x hx => ?_
 obtain ⟨p, hp, rfl⟩ := List.mem_map.1 hx
 refine iA (by simp) fun y hy => ?_
 have hpa := List.all_eq_true.1 h.1 p hp
 unfold paB at hpa
 rw [Bool.and_eq_true] at hpa
 simp only [List.mem_cons, List.mem_nil_iff, or_false] at hy
 rcases hy with rfl | rfl
 · exact fF d _
 · exact aEX hpa.1 hpa.2
theorem pV (d : Nat) (e : Ei) : Itm.aN (d + 3) e.tree = true := by
 have ht : ∀ (k : Nat) (l : List UInt8), Itm.aN (k + 1) (aHL l) = true := fun k l => by rw [Itm.aN]; rfl
 unfold Ei.tree
 split
 ·
  refine iA (by simp) fun x hx => ?_
  simp only [List.mem_cons, List.mem_nil_iff, or_false] at hx
  rcases hx with rfl | rfl
  · exact fF _ _
  ·
   refine iA (by simp) fun x hx => ?_
   simp only [List.mem_cons, List.mem_nil_iff, or_false] at hx
   rcases hx with rfl | rfl <;> exact fF _ _
 ·
  split
  ·
   refine iA (by simp) fun x hx => ?_
   simp only [List.mem_cons, List.mem_nil_iff, or_false] at hx
   rcases hx with rfl | rfl <;> exact fF _ _
  ·
   refine iA (by simp) fun x hx => ?_
   simp only [List.mem_cons, List.mem_nil_iff, or_false] at hx
   rcases hx with rfl | rfl
   · exact fF _ _
   · exact ht _ _
theorem aBZ {d : Nat} {l : List Int} (hl : l.length ≤ 1000) : Itm.aN (d + 2) (aLF l) = true :=
 iA (by rw [List.length_map]; exact hl) fun x hx => by
  obtain ⟨n, _, rfl⟩ := List.mem_map.1 hx
  exact fF _ _
theorem aB7 {d : Nat} {r : List (List Pa)} (hl : r.length ≤ 1000) (h : r.all aBP = true) : Itm.aN (d + 4) (Itm.dH (r.map lR)) = true :=
 iA (by rw [List.length_map]; exact hl) fun x hx => by
  obtain ⟨l, hlr, rfl⟩ := List.mem_map.1 hx
  have := List.all_eq_true.1 h l hlr
  unfold aBP at this
  simp only [Bool.and_eq_true, decide_eq_true_eq] at this
  exact aCb oW this.2
theorem aBr {a : As} (h : dV a = true) {d : Nat} : ∀ x ∈ a.items, Itm.aN (d + 4) x = true := by
 unfold dV at h
 simp only [Bool.and_eq_true, decide_eq_true_eq] at h
 obtain ⟨⟨⟨⟨⟨⟨⟨⟨h1, h2⟩, h3⟩, h4⟩, h5⟩, h6⟩, h7⟩, h8⟩, h9⟩ := h
 intro x hx
 unfold As.items at hx
 split at hx
 ·
  simp only [List.mem_cons, List.mem_nil_iff, or_false] at hx
  rcases hx with rfl | rfl | rfl | rfl | rfl
  · exact aBZ oW
  · exact fF _ _
  · exact fF _ _
  · exact pV _ _
  · exact aB7 oW h9
 ·
  simp only [List.mem_cons, List.mem_nil_iff, or_false] at hx
  rcases hx with rfl | rfl | rfl | rfl | rfl | rfl
  · exact aBZ oW
  · exact fF _ _
  · exact fF _ _
  · exact pV _ _
  · exact aCb oW h7
  · exact aB7 oW h9
theorem oR {l : List Itm.Tr} (h : ∀ x ∈ l, Itm.NOk x) {o : Bool} : Itm.NOk (.mk 4 0 [] l o) := .mk 4 0 [] l o (by decide) (by decide) fun i t ht => h t (List.mem_of_getElem? ht)
theorem jM {n : Nat} (h : n < 18446744073709551616) : Itm.NOk (Itm.cN n) := .mk 0 n [] [] false h (by decide) fun i t ht => by simp at ht
theorem aLO {e : Ei} (h : e.ok) : Itm.NOk e.tree := by
 have hl := h.l
 unfold R47 at hl
 unfold Ei.tree
 split
 ·
  refine oR fun x hx => ?_
  simp only [List.mem_cons, List.mem_nil_iff, or_false] at hx
  rcases hx with rfl | rfl
  · exact jM (by decide)
  ·
   refine oR fun x hx => ?_
   simp only [List.mem_cons, List.mem_nil_iff, or_false] at hx
   rcases hx with rfl | rfl
   · exact jM h.n
   · exact jM h.v
 ·
  split
  ·
   refine oR fun x hx => ?_
   simp only [List.mem_cons, List.mem_nil_iff, or_false] at hx
   rcases hx with rfl | rfl <;> exact jM (by decide)
  ·
   refine oR fun x hx => ?_
   simp only [List.mem_cons, List.mem_nil_iff, or_false] at hx
   rcases hx with rfl | rfl
   · exact jM (by decide)
   · exact .mk 3 0 e.l [] false (by decide) (by show e.l.length < 18446744073709551616; omega) fun i t ht => by simp at ht
theorem aIT {l : List Pa} (h : ∀ p ∈ l, 0 ≤ p.id ∧ p.id ≤ 65535) (hn : ∀ p ∈ l, Itm.NOk p.v) : Itm.NOk (lR l) := oR fun x hx => by
 obtain ⟨p, hp, rfl⟩ := List.mem_map.1 hx
 refine oR fun y hy => ?_
 simp only [List.mem_cons, List.mem_nil_iff, or_false] at hy
 rcases hy with rfl | rfl
 ·
  have := h p hp
  exact jM oW
 · exact hn p hp
theorem aI7 {a : As} (ho : a.ok) (h : dV a = true) : ∀ x ∈ a.items, Itm.NOk x := by
 unfold dV at h
 simp only [Bool.and_eq_true, decide_eq_true_eq] at h
 obtain ⟨⟨⟨⟨⟨⟨⟨⟨h1, h2⟩, h3⟩, h4⟩, h5⟩, h6⟩, h7⟩, h8⟩, h9⟩ := h
 have ht : Itm.NOk (aLF a.t) := oR fun x hx => by
  obtain ⟨n, hn, rfl⟩ := List.mem_map.1 hx
  have := jT h3 n hn
  exact jM oW
 have hc : Itm.NOk (Itm.cN a.c.toNat) := by
  have := mC h4
  exact jM oW
 have hr : Itm.NOk (Itm.dH (a.r.map lR)) := oR fun x hx => by
  obtain ⟨l, hlr, rfl⟩ := List.mem_map.1 hx
  have := List.all_eq_true.1 h9 l hlr
  unfold aBP at this
  rw [Bool.and_eq_true] at this
  exact aIT (iB this.2) (ho.r l hlr)
 intro x hx
 unfold As.items at hx
 split at hx
 ·
  simp only [List.mem_cons, List.mem_nil_iff, or_false] at hx
  rcases hx with rfl | rfl | rfl | rfl | rfl
  · exact ht
  · exact hc
  · exact jM (by decide)
  · exact aLO ho.s
  · exact hr
 ·
  simp only [List.mem_cons, List.mem_nil_iff, or_false] at hx
  rcases hx with rfl | rfl | rfl | rfl | rfl | rfl
  · exact ht
  · exact hc
  · exact jM (by decide)
  · exact aLO ho.s
  · exact aIT (iB h7) ho.p
  · exact hr
theorem rE {a : As} (ho : a.ok) (h : a.right = true) : itF 8 (159 :: (a.bytes ++ [255])) = some (.mk 4 0 [] a.items true, (159 :: (a.bytes ++ [255])).length) := by
 unfold As.right at h
 rw [Bool.and_eq_true, decide_eq_true_eq] at h
 have hb : Itm.aE (.mk 4 0 [] a.items true) = 159 :: (a.bytes ++ [255]) := Itm.tH a.items
 have hil : a.items.length ≤ 1000 := by unfold As.items; split <;> simp
 have hr : Itm.aN 8 (.mk 4 0 [] a.items true) = true := by
  rw [Itm.aN, Bool.and_eq_true, List.all_eq_true]
  refine ⟨?_, fun x hx => aBr h.1 (d := 3) x hx⟩
  show Itm.okN 4 0 [] a.items.length true = true
  unfold Itm.okN
  simp [hil]
 have := aBs 8 (.mk 4 0 [] a.items true) [] hr (oR (aI7 ho h.1)) (by rw [hb, List.length_cons, List.length_append]; simp only [List.length_cons, List.length_nil]; omega)
 rw [List.append_nil, hb] at this
 exact this
theorem qG {a : As} (h : a.right = true) : asR a.items = some a := by
 unfold As.right at h
 rw [Bool.and_eq_true] at h
 exact aJX h.1 (pV 5 a.s)
theorem bytes_inj {a b : As} (ha : a.right = true) (hb : b.right = true) (oa : a.ok) (ob : b.ok) (h : a.bytes = b.bytes) : a = b := by
 have h1 := rE oa ha
 have h2 := rE ob hb
 rw [h, h2] at h1
 simp only [Option.some.injEq, Prod.mk.injEq, Itm.Tr.mk.injEq, true_and, and_true] at h1
 have e1 := qG ha
 have e2 := qG hb
 rw [← h1, e2] at e1
 exact (Option.some.inj e1).symm
def PaR (V : View) (p : Pa) (cs : List Value) : Prop := ∃ ct, cs = .int .i64 p.id :: ct ∧ TV V p.v ct
instance paR : RecOk PaR 6 := ⟨fun h ⟨ct, e, ht⟩ => ⟨ct, e, ht.le h⟩, fun ⟨ct, e, ht⟩ => by rw [e, List.length_cons, ht.len5], fun ⟨ct, e, ht⟩ u hu => by
 rw [e] at hu
 rcases List.mem_cons.1 hu with rfl | hu
 · rfl
 · exact ht.one u hu⟩
def RlR (V : View) (l : List Pa) (cs : List Value) : Prop := ∃ a c, cs = [.slice a l.length c] ∧ iM PaR 6 V a l
instance rlR : RecOk RlR 1 := ⟨fun h ⟨a, c, e, hl⟩ => ⟨a, c, e, hl.le h⟩, fun ⟨a, c, e, hl⟩ => by rw [e]; rfl, fun ⟨a, c, e, hl⟩ u hu => by
 rw [e] at hu
 obtain rfl := List.mem_singleton.1 hu
 rfl⟩
theorem aJj {V : View} {b f : Nat} {l : List Int} (h : V.range b f (l.map inV)) (hl : l.length ≤ R47) : oD V (some ⟨b, f, none⟩) l := ⟨fun _ => ⟨b, f, rfl, h⟩, hl⟩
theorem oD.take {V : View} {b f : Nat} {l : List Int} (h : oD V (some ⟨b, f, none⟩) l) (i : Nat) : oD V (some ⟨b, f, none⟩) (l.take i) := by
 refine ⟨fun hne => ?_, by have := h.len; rw [List.length_take]; omega⟩
 obtain ⟨b', f', e, hr⟩ := h.at_ (fun e => hne (by rw [e]; simp))
 refine ⟨b', f', e, fun j v hj => hr j v ?_⟩
 rw [List.map_take] at hj
 rw [List.getElem?_take] at hj
 split at hj
 · exact hj
 · cases hj
structure aEH (U : View) (a1 a2 a3 : Option Addr) (a : As) : Prop where
 t : oD U a1 a.t
 p : iM PaR 6 U a2 a.p
 r : iM RlR 1 U a3 a.r
 s : a.s.ok
def aOE (a : As) (a1 a2 a3 : Option Addr) (c1 c2 c3 : Nat) : List Value := [.slice a1 a.t.length c1, .int .i64 a.c, .int .i64 a.s.s, .string (B a.s.l), .int .u64 a.s.n, .int .u64 a.s.v, .slice a2 a.p.length c2, .slice a3 a.r.length c3]
def asV (a : As) (a1 a2 a3 : Option Addr) (c1 c2 c3 : Nat) : Value := .agg (aOE a a1 a2 a3 c1 c2 c3).toArray
theorem TV.nok {U : View} {t : Itm.Tr} {cs : List Value} (h : TV U t cs) : Itm.NOk t := by
  induction h with
  | mk k n s l o a c C hn hs hl hat hel ih => exact .mk k n s l o hn (by have : R47 < 18446744073709551616 := by decide
                                                                         show s.length < 18446744073709551616
                                                                         omega) ih
theorem iM.all {α : Type} {R : View → α → List Value → Prop} {z : Nat} {U : View} {a : Option Addr} {l : List α} (h : iM R z U a l) {x : α} (hx : x ∈ l) : ∃ cs, R U x cs := by
 obtain ⟨i, hi⟩ := List.mem_iff_getElem?.1 hx
 obtain ⟨_, _, cs, _, _, hr⟩ := h.at_ i x hi
 exact ⟨cs, hr⟩
theorem aEH.ok {U : View} {a1 a2 a3 : Option Addr} {a : As} (h : aEH U a1 a2 a3 a) : a.ok :=
 ⟨h.s, fun x hx => by
  obtain ⟨cs, ct, _, ht⟩ := h.p.all hx
  exact ht.nok, fun l hl x hx => by
  obtain ⟨cs, a, c, _, hp⟩ := h.r.all hl
  obtain ⟨cs, ct, _, ht⟩ := hp.all hx
  exact ht.nok⟩
theorem Mem.freezeRwC {W0 : Cx} {U : View} {W : World} {r : Rw} {xs : List Value} {z m : Nat} {σ1 : aF} {e : TypeId} (hM : Mem W0 U (σ1 ++ r.B e xs) W) (hok : r.ok z m xs) : ∃ a c V, View.le U V ∧ qB V a xs ∧ r.V m = .slice a m c ∧ m ≤ c ∧ Mem W0 V σ1 W := by
 obtain ⟨a, c, V, hl, hA, hv, hM'⟩ := hM.freezeRw hok
 obtain ⟨a', c', hv', hc'⟩ := Rw.formC hok
 refine ⟨a, c, V, hl, hA, hv, ?_, hM'⟩
 rw [hv] at hv'
 simp only [Value.slice.injEq, true_and] at hv'
 rw [hv'.2]
 exact hc'
theorem aCT {α : Type} {R : View → α → List Value → Prop} {z : Nat} [RecOk R z] (hz : 0 < z) {w : World} {U V : View} {W' : World} {σ1 : aF} {e : TypeId} {r : Rw} {xs : List Value} {m : Nat} {L : List (α × List Value)} {Φ : Value → View → Prop} (hM : Mem ⟨w, U⟩ V (σ1 ++ r.B e xs) W') (hr : RwR R z V r xs m L) (hle : View.le U V) (f : Value → Value) (h47 : m ≤ R47)
  (h : ∀ a c V', View.le V V' → iM R z V' a (L.map Prod.fst) → m ≤ c → m = (L.map Prod.fst).length → Φ (f (.slice a m c)) V') : rO w U Φ (.returned (f (r.V m))) W' := by
 obtain ⟨a, c, V', hl', hA, hv, hc, hM'⟩ := hM.freezeRwC hr.ok
 rw [hv]
 exact cF hM' (View.le_trans hle hl') (h a c V' hl' (hr.done hz hA hl' h47) hc (by rw [List.length_map]; exact hr.m))
theorem sQ {α β : Type} {f : α → Option β} : ∀ {l : List α} {i : Nat} {y : α} {ys : List β} {z : β}, aD1 f (l.take i) = some ys → l[i]? = some y → f y = some z → aD1 f (l.take (i + 1)) = some (ys ++ [z])
 | [], i, y, ys, z, _, h, _ => by simp at h
 | x :: l, 0, y, ys, z, h0, h, hf => by
  simp only [List.getElem?_cons_zero, Option.some.injEq] at h
  subst h
  simp only [List.take_zero, aD1, Option.some.injEq] at h0
  subst h0
  simp [aD1, hf]
 | x :: l, i + 1, y, ys, z, h0, h, hf => by
  simp only [List.getElem?_cons_succ] at h
  rw [List.take_succ_cons, aD1] at h0 ⊢
  cases hx : f x with
  | none => rw [hx] at h0; cases h0
  | some u =>
   rw [hx] at h0
   simp only at h0 ⊢
   cases hr : aD1 f (l.take i) with
   | none => rw [hr] at h0; cases h0
   | some r =>
    rw [hr] at h0
    simp only [Option.some.injEq] at h0
    subst h0
    rw [sQ hr h hf]
    rfl
theorem pT {α β : Type} {f : α → Option β} : ∀ {l : List α} {y : α}, y ∈ l → f y = none → aD1 f l = none
 | x :: l, y, h, hf => by
  rw [aD1]
  rcases List.mem_cons.1 h with rfl | h
  · rw [hf]
  ·
   cases f x with
   | none => rfl
   | some u =>
    simp only
    rw [pT h hf]
theorem aDP {y u v : Itm.Tr} (h2 : y.l.length = 2) (h0 : y.l[0]? = some u) (h1 : y.l[1]? = some v) : aDQ y = match aEE u with
  | none => none
  | some n => some ⟨n, v⟩ := by
 have hl : y.l = [u, v] := by
  match hq : y.l with
  | [] => rw [hq] at h2; cases h2
  | [_] => rw [hq] at h2; cases h2
  | [p, q] =>
   rw [hq] at h0 h1
   simp only [List.getElem?_cons_zero, List.getElem?_cons_succ, Option.some.injEq] at h0 h1
   rw [h0, h1]
  | _ :: _ :: _ :: _ => rw [hq] at h2; simp at h2
 unfold aDQ
 rw [hl]
 try rfl
theorem aIN {y : Itm.Tr} (h2 : ¬ y.l.length = 2) : aDQ y = none := by
 unfold aDQ
 split
 · next u v h => rw [h] at h2; exact absurd rfl h2
 · rfl
theorem lN {u : Itm.Tr} (h : (u.k == 0) = true) : aEE u = some ((min u.n 65536 : Nat) : Int) := by unfold aEE; rw [if_pos h]
theorem sO {u : Itm.Tr} (h : (u.k == 0) = false) : aEE u = none := by unfold aEE; rw [if_neg (by rw [h]; exact Bool.false_ne_true)]
def aDu {α : Type} (R : View → α → List Value → Prop) (z : Nat) (eA : Addr) (x : Option (List α)) (v : Value) (V : View) : Prop := match x with
 | some l => ∃ a c, v = .tuple #[.slice a l.length c, .nilIface] ∧ iM R z V a l ∧ l.length ≤ c
 | none => ∃ e : Er, v = .tuple #[.slice none 0 0, e.V eA]
theorem aDu.some {α : Type} {R : View → α → List Value → Prop} {z : Nat} {eA : Addr} {x : Option (List α)} {v : Value} {V : View} (h : aDu R z eA x v V) (hx : x.isSome = true) : ∃ l a c, x = some l ∧ v = .tuple #[.slice a l.length c, .nilIface] ∧ iM R z V a l ∧ l.length ≤ c := by
 obtain ⟨l, rfl⟩ := Option.isSome_iff_exists.1 hx
 obtain ⟨a, c, h⟩ := h
 exact ⟨l, a, c, rfl, h⟩
theorem aDu.none {α : Type} {R : View → α → List Value → Prop} {z : Nat} {eA : Addr} {x : Option (List α)} {v : Value} {V : View} (h : aDu R z eA x v V) (hx : x.isSome = false) : x = none ∧ ∃ e : Er, v = .tuple #[.slice none 0 0, e.V eA] := by
 cases x with
 | none => exact ⟨rfl, h⟩
 | some l => cases hx
theorem aCJ (x : Int) (w : World) : CP 172 #[.int .i64 x] w (Ret (.bool (gS x)) w) := by
 refine dK 9 Tryz.func172 ?_
 refine zQ 1 (zn (zQ 3 (aK 5 (decide (x ≥ 0)) (fun h0 => ?_) (fun h0 => ?_))))
 ·
  refine zq 4 (zn (aA (aH [2] [(.bool (decide (x ≤ 65535)))] (fun W' hM => ?_))))
  exact ⟨by simp only [cG,gS,h0,bs,bQ,reduceIte],hM.below⟩
 ·
  refine zq 4 (zn (aA (aH [2] [(.bool false)] (fun W' hM => ?_))))
  exact ⟨by simp only [cG,gS,h0,bs,bQ,reduceIte],hM.below⟩
def aJk (v : Int) : Nat → List Int → Int
 | _, [] => -1
 | i, x :: r => if v == x then (i : Int) else aJk v (i + 1) r
theorem aD5 {l : List Int} {v : Int} {i : Nat} {y : Int} (h : l[i]? = some y) : aJk v i (l.drop i) = if v == y then (i : Int) else aJk v (i + 1) (l.drop (i + 1)) := by
 rw [cK h, aJk]
theorem aGb (v : Int) : ∀ (i : Nat) (l : List Int), decide (aJk v i l ≥ 0) = l.contains v
 | _, [] => rfl
 | i, x :: r => by
  rw [aJk, List.contains_cons]
  cases v == x with
  | true => simp
  | false => simpa using aGb v (i + 1) r
theorem aJi (l : List Int) (a : Option Addr) (c : Nat) (v : Int) (w : World) {U : View} (hU : See U w) (hl : oD U a l) : CP 103 #[.slice a l.length c, .int .i64 v] w (Ret (.int .i64 (aJk v 0 l)) w) := by
 have hlen := hl.len
 unfold R47 at hlen
 refine eG 19 Tryz.func103 hU ?_
 refine zQ 1 (zn (zs (zQ 3 (zn (aB (gX (α := Nat) (fun x => [0,1,4,7,8].zip [(.slice a l.length c),(I6 v),(I6 0),(L6 l.length),(L6 x)]) (fun x => U) (fun x => []) (fun x => x ≤ l.length ∧ aJk v x (l.drop x) = aJk v 0 l) (fun x => l.length - x) 0 ?_ ?_))))))
 · exact ⟨Nat.zero_le _,rfl⟩
 intro x hx
 obtain ⟨hx1,hx2⟩ := hx
 refine zQ 1 (zn (zs (cD (decide ((x : Int) < (l.length : Int))) (fun h0 => ?_) (fun h0 => ?_))))
 ·
  have h0d := of_decide_eq_true h0
  refine zk (zs (aB (zQ 2 (zn (zQ 3 ?_)))))
  obtain ⟨y0,hy0⟩ : ∃ y,(l)[x]? = some y := ⟨(l)[x]'oW,List.getElem?_eq_getElem _⟩
  obtain ⟨b0,f0,rfl,hU0⟩ := hl.one hy0
  refine cH (Pt b0 (f0 + x)) (fW _ 3 _ _ rfl b0 f0 l.length c x .i64 kR kR (by first | assumption | omega) kR kR) ?_
  refine zV b0 (f0 + x) (I6 y0) hU0 3 (.tmp 14) _ Tryz.underlying3 rfl ?_
  refine zq 1 (zn (cD (v == y0) (fun h1 => ?_) (fun h1 => ?_)))
  ·
   refine zQ 2 (zn (aA (aH [4] [(L6 x)] (fun W' hM => ?_))))
   refine ⟨?_,hM.below⟩
   rw [← hx2,aD5 hy0,if_pos h1]
   rfl
  ·
   have h1d := beq_eq_false_iff_ne.1 h1
   refine zk (zr (zq 1 (eV 18 ((x : Int) + 1) (zq 1 (zn ?_)))))
   refine nx (x + 1) ?_ ?_
   · exact ⟨by omega,by rw [← hx2,aD5 hy0,h1]; rfl⟩
   · show l.length - (x + 1) < l.length - x; omega
 ·
  have h0d := of_decide_eq_false h0
  refine aU (zQ 1 (zn (aA (aH [4] [(I6 (-1))] (fun W' hM => ?_)))))
  refine ⟨?_,hM.below⟩
  rw [← hx2,cY oW]
  rfl
theorem pW (l : List Int) (a : Option Addr) (c : Nat) (v : Int) (w : World) {U : View} (hU : See U w) (hl : oD U a l) : CP 121 #[.slice a l.length c, .int .i64 v] w (Ret (.bool (l.contains v)) w) := by
 refine eG 9 Tryz.func121 hU ?_
 refine zQ 1 (zn (zQ 2 (dA 103 #[(.slice a l.length c),(I6 v)] (I6 (aJk v 0 l)) (fun W hM => aJi l _ _ v W hM.view hl) ?_)))
 refine zq 2 (zn (aA (aH [4] [(.bool (decide ((aJk v 0 l) ≥ 0)))] (fun W' hM => ?_))))
 exact ⟨by rw [← aGb v 0 l]; rfl,hM.below⟩
theorem pJ {l : List Int} {i : Nat} {y : Int} (h : l[i]? = some y) : lI (l.take i) (l.drop i) = if !gS y || (l.take i).contains y then false else lI (l.take (i + 1)) (l.drop (i + 1)) := by
 rw [cK h, lI, List.take_add_one, h]
 rfl
theorem aBY (l : List Int) (a : Option Addr) (c : Nat) (w : World) {U : View} (hU : See U w) (hl : oD U a l) (hc : l.length ≤ c) : CP 171 #[.slice a l.length c] w (Ret (.bool (jL l)) w) := by
 have hlen := hl.len
 unfold R47 at hlen
 refine eG 23 Tryz.func171 hU ?_
 refine zQ 1 (zn (zs (zQ 3 (zn (aB (gX (α := Nat) (fun x => [0,2,5,6,7].zip [(.slice a l.length c),(.bool false),(.slice a l.length c),(L6 l.length),(L6 x)]) (fun x => U) (fun x => []) (fun x => x ≤ l.length ∧ lI (l.take x) (l.drop x) = jL l) (fun x => l.length - x) 0 ?_ ?_))))))
 · exact ⟨Nat.zero_le _,rfl⟩
 intro x hx
 obtain ⟨hx1,hx2⟩ := hx
 refine zQ 1 (zn (zs (cD (decide ((x : Int) < (l.length : Int))) (fun h0 => ?_) (fun h0 => ?_))))
 ·
  have h0d := of_decide_eq_true h0
  refine zk (zs (aB (zQ 1 ?_)))
  obtain ⟨y0,hy0⟩ : ∃ y,(l)[x]? = some y := ⟨(l)[x]'oW,List.getElem?_eq_getElem _⟩
  obtain ⟨b0,f0,rfl,hU0⟩ := hl.one hy0
  refine cH (Pt b0 (f0 + x)) (fW _ 3 _ _ rfl b0 f0 l.length c x .i64 kR kR (by first | assumption | omega) kR kR) ?_
  refine zV b0 (f0 + x) (I6 y0) hU0 3 (.tmp 10) _ Tryz.underlying3 rfl ?_
  refine zq 2 (zn (zQ 1 (dL (fun W hM => aCJ y0 W) (zq 2 (aK 15 (!(gS y0)) (fun h1 => ?_) (fun h1 => ?_))))))
  ·
   refine zq 6 (zn (dF (zQ 1 (zn (aA (aH [2] [(.bool false)] (fun W' hM => ?_)))))))
   refine ⟨?_,hM.below⟩
   rw [← hx2,pJ hy0]
   simp only [h1,bs,bQ,reduceIte]
   rfl
  ·
   refine zq 2 (cH (Sl b0 f0 x c) (gD 48 3 (.tmp 16) none (some (.tmp 17)) none rfl b0 f0 l.length c 0 x c 1 x c f0 kR eR eR eR (by decide) oW oW oW oW oW (by first | rfl | (split <;> omega)) Tryz.underlying48 kR) ?_)
   refine zq 1 (dA 121 #[(Sl b0 f0 x c),(I6 y0)] (.bool ((l.take x).contains y0)) (fun W hM => (by have h := pW (l.take x) _ c y0 W hM.view (hl.take x); rwa [List.length_take,Nat.min_eq_left oW] at h)) ?_)
   refine zq 1 (zn (cD ((l.take x).contains y0) (fun h2 => ?_) (fun h2 => ?_)))
   ·
    refine zQ 1 (zn (aA (aH [2] [(.bool false)] (fun W' hM => ?_))))
    refine ⟨?_,hM.below⟩
    rw [← hx2,pJ hy0]
    simp only [h1,h2,bs,bQ,reduceIte]
    rfl
   ·
    refine zk (zr (zq 1 (eV 22 ((x : Int) + 1) (zq 1 (zn ?_)))))
    refine nx (x + 1) ?_ ?_
    · exact ⟨by omega,by rw [← hx2,pJ hy0]; simp only [h1,h2,bs,bQ,reduceIte]⟩
    · show l.length - (x + 1) < l.length - x; omega
 ·
  have h0d := of_decide_eq_false h0
  refine aU (zQ 1 (zn (aA (aH [2] [(.bool true)] (fun W' hM => ?_)))))
  refine ⟨?_,hM.below⟩
  rw [← hx2,cY oW]
  rfl
theorem aCY {l : List Pa} {y : Pa} (hy : y ∈ l) (h : paB y = false) : jB l = false := by
 unfold jB
 rw [show l.all paB = false from List.all_eq_false.2 ⟨y, hy, by rw [h]; decide⟩]
 rfl
theorem aDO (l : List Pa) (a : Option Addr) (c : Nat) (w : World) {U : View} (hU : See U w) (hl : iM PaR 6 U a l) (h47 : l.length ≤ 1000000) : CP 173 #[.slice a l.length c] w (Ret (.bool (jB l)) w) := by
 refine eG 36 Tryz.func173 hU ?_
 refine zQ 1 (zn (zQ 1 (zn (zs (zQ 3 (zn (aB (gX (α := Gp Int) (fun x => [2,3,6,7,8].zip [(.bool false),(x.r.V x.i),(.slice a l.length c),(L6 l.length),(L6 x.i)]) (fun x => x.V) (fun x => ([] ++ x.r.B 3 x.xs)) (fun x => x.i ≤ l.length ∧ View.le U x.V ∧ RwR InR 1 x.V x.r x.xs x.i x.L ∧ x.L.map Prod.fst = (l.take x.i).map Pa.id ∧ (l.take x.i).all paB = true) (fun x => l.length - x.i) ⟨0,Rw.nil,[],[],U⟩ ?_ ?_ (hm := fun _ h => h.eqv (Eq.trans kR (List.append_nil ([] : aF)).symm))))))))))
 · exact ⟨Nat.zero_le _,View.le_refl _,RwR.nil,rfl,rfl⟩
 intro x hx
 obtain ⟨hxi,hxl,hxr,hxp⟩ := hx
 refine zQ 1 (zn (zs (cD (decide ((x.i : Int) < (l.length : Int))) (fun h0 => ?_) (fun h0 => ?_))))
 ·
  have h0d := of_decide_eq_true h0
  refine zk (zs (aB (zs (zr ?_))))
  obtain ⟨y0,hy0⟩ : ∃ y,(l)[x.i]? = some y := ⟨(l)[x.i]'oW,List.getElem?_eq_getElem _⟩
  obtain ⟨b0,f0,cs0,rfl,hU0,hR0⟩ := (hl.le hxl).at_ x.i y0 hy0
  obtain ⟨ct0,rfl,ht0⟩ := hR0
  obtain ⟨a0,c0,rfl,hts0,hn0,hs0,hl0⟩ := ht0.form
  refine cH (Pt b0 (f0 + x.i * 6)) (rIx 92 rfl b0 f0 l.length c x.i 6) ?_
  refine zU b0 (f0 + x.i * 6) [(I6 y0.id),(I6 y0.v.k),(N6 y0.v.n),(St y0.v.s),(.slice a0 y0.v.l.length c0),(.bool y0.v.o)] hU0 92 (.tmp 10) _ Tryz.underlying92 rfl ?_
  refine dN 0 (fun b1 => ?_)
  refine aY 0 b1 (zn (zs (zB [0,0,1,0,0] [(b1,1)] (aK 16 (y0.v.k != 0) (fun h1 => ?_) (fun h1 => ?_)))))
  ·
   have h1d := bne_iff_ne.1 h1
   refine cU [0,0,1,0,0,0] [(b1,1)] (aK 22 (y0.v.k != 2) (fun h2 => ?_) (fun h2 => ?_))
   ·
    have h2d := bne_iff_ne.1 h2
    refine zq 5 (zn (dF (zQ 1 (zn (aA (aH [2] [(.bool false)] (fun W' hM => ?_)))))))
    refine ⟨?_,hM.below⟩
    have hpa : paB y0 = false := by simp [paB,h1d,h2d]
    rw [aCY (List.mem_of_getElem? hy0) hpa]
    rfl
   ·
    have h2d := bne_eq_false_iff_eq.1 h2
    refine cU [0,1] [(b1,5)] (dA 179 #[(tV y0.v a0 c0)] (.bool (Itm.aN 8 y0.v)) (fun W hM => lO y0.v _ W hM.view ht0) ?_)
    refine zq 2 (zn (cD (!(Itm.aN 8 y0.v)) (fun h3 => ?_) (fun h3 => ?_)))
    ·
     refine zQ 1 (zn (aA (aH [2] [(.bool false)] (fun W' hM => ?_))))
     refine ⟨?_,hM.below⟩
     have hpa : paB y0 = false := by simp only [Bool.not_eq_true',Bool.not_eq_false'] at h3; simp [paB,h1d,h2d,h3]
     rw [aCY (List.mem_of_getElem? hy0) hpa]
     rfl
    ·
     refine zk (zr (cU [0,0,1] [(b1,1)] (dN 1 (fun b2 => ?_))))
     refine tT 2 3 48 8 1 1 hxr.ok (fun W hM => cW hM 1 b2 [(I6 y0.id)] 3 kR) rfl (List.all_eq_true.1 kR) (by decide) (fun r3 hr3 => ?_)
     refine zq 1 (zn (zr (zq 1 (eV 33 ((x.i : Int) + 1) (zq 1 (zn ?_))))))
     refine nx ⟨x.i + 1,r3,(x.xs ++ [(I6 y0.id)]),x.L ++ [(y0.id,[(I6 y0.id)])],x.V⟩ ?_ ?_ (d := fun _ h => Mem.sub (List.Sublist.append (List.sublist_append_left _ _) (List.Sublist.refl _)) (h.eqv (show _ = ((([] : aF) ++ ([(bK b1 [(I6 y0.id),(I6 y0.v.k),(N6 y0.v.n),(St y0.v.s),(.slice a0 y0.v.l.length c0),(.bool y0.v.o)] 92),(bK b2 [(I6 y0.id)] 3)] : aF)) ++ (r3.B 3 (x.xs ++ [(I6 y0.id)]))) from by kernel_rfl)))
     · exact ⟨by show x.i + 1 ≤ _; omega,hxl,RwR.snoc hxr rfl hr3,by rw [List.map_append,hxp.1,eX Pa.id hy0]; rfl,by rw [rW paB hy0,hxp.2]; simp only [Bool.not_eq_true',Bool.not_eq_false'] at h3; simp [paB,h1d,h2d,h3]⟩
     · show l.length - (x.i + 1) < l.length - x.i; omega
  ·
   have h1d := bne_eq_false_iff_eq.1 h1
   refine cU [0,0,0,0,0,0,0,1] [(b1,5)] (dA 179 #[(tV y0.v a0 c0)] (.bool (Itm.aN 8 y0.v)) (fun W hM => lO y0.v _ W hM.view ht0) ?_)
   refine zq 2 (zn (cD (!(Itm.aN 8 y0.v)) (fun h4 => ?_) (fun h4 => ?_)))
   ·
    refine zQ 1 (zn (aA (aH [2] [(.bool false)] (fun W' hM => ?_))))
    refine ⟨?_,hM.below⟩
    have hpa : paB y0 = false := by simp only [Bool.not_eq_true',Bool.not_eq_false'] at h4; simp [paB,h1d,h4]
    rw [aCY (List.mem_of_getElem? hy0) hpa]
    rfl
   ·
    refine zk (zr (cU [0,0,1] [(b1,1)] (dN 1 (fun b4 => ?_))))
    refine tT 2 3 48 8 1 1 hxr.ok (fun W hM => cW hM 1 b4 [(I6 y0.id)] 3 kR) rfl (List.all_eq_true.1 kR) (by decide) (fun r5 hr5 => ?_)
    refine zq 1 (zn (zr (zq 1 (eV 33 ((x.i : Int) + 1) (zq 1 (zn ?_))))))
    refine nx ⟨x.i + 1,r5,(x.xs ++ [(I6 y0.id)]),x.L ++ [(y0.id,[(I6 y0.id)])],x.V⟩ ?_ ?_ (d := fun _ h => Mem.sub (List.Sublist.append (List.sublist_append_left _ _) (List.Sublist.refl _)) (h.eqv (show _ = ((([] : aF) ++ ([(bK b1 [(I6 y0.id),(I6 y0.v.k),(N6 y0.v.n),(St y0.v.s),(.slice a0 y0.v.l.length c0),(.bool y0.v.o)] 92),(bK b4 [(I6 y0.id)] 3)] : aF)) ++ (r5.B 3 (x.xs ++ [(I6 y0.id)]))) from by kernel_rfl)))
    · exact ⟨by show x.i + 1 ≤ _; omega,hxl,RwR.snoc hxr rfl hr5,by rw [List.map_append,hxp.1,eX Pa.id hy0]; rfl,by rw [rW paB hy0,hxp.2]; simp only [Bool.not_eq_true',Bool.not_eq_false'] at h4; simp [paB,h1d,h4]⟩
    · show l.length - (x.i + 1) < l.length - x.i; omega
 ·
  have h0d := of_decide_eq_false h0
  refine aU (zQ 1 ?_)
  refine aM5 34 x.r x.xs 1 x.i [] 3 kR hxr.ok kR (fun a6 c6 V6 hV6 hR6 hE6 => ?_)
  have k7 := hxr.le hV6
  have hL6 := (k7.done (by decide) hR6 (View.le_refl _) (by unfold R47; omega)).ins
  rw [hxp.1,List.take_of_length_le oW] at hL6
  refine dA 171 #[(.slice a6 x.i c6)] (.bool (jL (l.map Pa.id))) (fun W hM => (by have h := aBY (l.map Pa.id) a6 c6 W hM.view hL6 (by rw [List.length_map]; omega); rwa [List.length_map,show l.length = x.i by omega] at h)) ?_
  refine zq 1 (zn (aA (aH [2] [(.bool (jL (l.map Pa.id)))] (fun W' hM => ?_))))
  refine ⟨?_,hM.below⟩
  have hp2 := hxp.2
  rw [List.take_of_length_le oW] at hp2
  unfold jB
  rw [hp2]
  rfl
theorem aET (l : List Pa) (a : Option Addr) (c : Nat) (w : World) {U : View} (hU : See U w) (hl : iM PaR 6 U a l) : CP 175 #[.slice a l.length c] w (Ret (.bool (!aBP l)) w) := by
 have e1 : decide (1 ≤ l.length) = !decide ((l.length : Int) < 1) := by rw [← decide_not]; exact decide_eq_decide.2 oW
 have e2 : decide (l.length ≤ 4) = !decide ((l.length : Int) > 4) := by rw [← decide_not]; exact decide_eq_decide.2 oW
 refine eG 16 Tryz.func175 hU ?_
 refine zQ 1 (zn (zQ 4 (aK 6 (decide ((l.length : Int) < 1)) (fun h0 => ?_) (fun h0 => ?_))))
 ·
  refine zq 10 (zn (aA (aH [2] [(.bool true)] (fun W' hM => ?_))))
  refine ⟨?_,hM.below⟩
  unfold aBP
  rw [e1,e2]
  simp only [cG,h0,bs,bQ,reduceIte]
 ·
  have h0d := of_decide_eq_false h0
  refine zq 5 (aK 11 (decide ((l.length : Int) > 4)) (fun h1 => ?_) (fun h1 => ?_))
  ·
   refine zq 5 (zn (aA (aH [2] [(.bool true)] (fun W' hM => ?_))))
   refine ⟨?_,hM.below⟩
   unfold aBP
   rw [e1,e2]
   simp only [cG,h0,h1,bs,bQ,reduceIte]
  ·
   have h1d := of_decide_eq_false h1
   refine zq 1 (dA 173 #[(.slice a l.length c)] (.bool (jB l)) (fun W hM => aDO l _ _ W hM.view hl oW) ?_)
   refine zq 3 (zn (aA (aH [2] [(.bool (!(jB l)))] (fun W' hM => ?_))))
   refine ⟨?_,hM.below⟩
   unfold aBP
   rw [e1,e2]
   simp only [cG,h0,h1,bs,bQ,reduceIte]
def aJR : Nat → List (List Pa) → Int
 | _, [] => -1
 | i, x :: r => if !aBP x then (i : Int) else aJR (i + 1) r
theorem aEv {l : List (List Pa)} {i : Nat} {y : List Pa} (h : l[i]? = some y) : aJR i (l.drop i) = if !aBP y then (i : Int) else aJR (i + 1) (l.drop (i + 1)) := by
 rw [cK h, aJR]
theorem aGv : ∀ (i : Nat) (l : List (List Pa)), decide (aJR i l ≥ 0) = !l.all aBP
 | _, [] => rfl
 | i, x :: r => by
  rw [aJR, List.all_cons]
  cases aBP x with
  | false => simp
  | true => simpa using aGv (i + 1) r
theorem aHB (l : List (List Pa)) (a : Option Addr) (c : Nat) (w : World) {U : View} (hU : See U w) (hl : iM RlR 1 U a l) : CP 208 #[.slice a l.length c, .func (.func 175) #[] #[]] w (Ret (.int .i64 (aJR 0 l)) w) := by
 have hlen := hl.len
 unfold R47 at hlen
 refine eG 19 Tryz.func208 hU ?_
 refine zQ 1 (zn (zs (zQ 3 (zn (aB (gX (α := Nat) (fun x => [0,1,4,7,8].zip [(.slice a l.length c),(.func (.func 175) #[] #[]),(I6 0),(L6 l.length),(L6 x)]) (fun x => U) (fun x => []) (fun x => x ≤ l.length ∧ aJR x (l.drop x) = aJR 0 l) (fun x => l.length - x) 0 ?_ ?_))))))
 · exact ⟨Nat.zero_le _,rfl⟩
 intro x hx
 obtain ⟨hx1,hx2⟩ := hx
 refine zQ 1 (zn (zs (cD (decide ((x : Int) < (l.length : Int))) (fun h0 => ?_) (fun h0 => ?_))))
 ·
  have h0d := of_decide_eq_true h0
  refine zk (zs (aB (zQ 2 (zn (zQ 3 ?_)))))
  obtain ⟨y0,hy0⟩ : ∃ y,(l)[x]? = some y := ⟨(l)[x]'oW,List.getElem?_eq_getElem _⟩
  obtain ⟨b0,f0,cs0,rfl,hU0,hR0⟩ := hl.at_ x y0 hy0
  obtain ⟨a0,c0,rfl,hp0⟩ := hR0
  have hW0 := View.range1 hU0
  refine cH (Pt b0 (f0 + x)) (fW _ 93 _ _ rfl b0 f0 l.length c x .i64 kR kR (by first | assumption | omega) kR kR) ?_
  refine zV b0 (f0 + x) (.slice a0 y0.length c0) hW0 93 (.tmp 14) _ Tryz.underlying93 rfl ?_
  refine dA 175 #[(.slice a0 y0.length c0)] (.bool (!aBP y0)) (fun W hM => aET y0 _ _ W hM.view hp0) ?_
  refine zn (cD (!aBP y0) (fun h1 => ?_) (fun h1 => ?_))
  ·
   refine zQ 2 (zn (aA (aH [4] [(L6 x)] (fun W' hM => ?_))))
   refine ⟨?_,hM.below⟩
   rw [← hx2,aEv hy0,if_pos h1]
   rfl
  ·
   refine zk (zr (zq 1 (eV 18 ((x : Int) + 1) (zq 1 (zn ?_)))))
   refine nx (x + 1) ?_ ?_
   · exact ⟨by omega,by rw [← hx2,aEv hy0,h1]; rfl⟩
   · show l.length - (x + 1) < l.length - x; omega
 ·
  have h0d := of_decide_eq_false h0
  refine aU (zQ 1 (zn (aA (aH [4] [(I6 (-1))] (fun W' hM => ?_)))))
  refine ⟨?_,hM.below⟩
  rw [← hx2,cY oW]
  rfl
theorem aHC (l : List (List Pa)) (a : Option Addr) (c : Nat) (w : World) {U : View} (hU : See U w) (hl : iM RlR 1 U a l) : CP 174 #[.slice a l.length c, .func (.func 175) #[] #[]] w (Ret (.bool (!l.all aBP)) w) := by
 refine eG 9 Tryz.func174 hU ?_
 refine zQ 1 (zn (zQ 2 (dA 208 #[(.slice a l.length c),(.func (.func 175) #[] #[])] (I6 (aJR 0 l)) (fun W hM => aHB l _ _ W hM.view hl) ?_)))
 refine zq 2 (zn (aA (aH [4] [(.bool (decide ((aJR 0 l) ≥ 0)))] (fun W' hM => ?_))))
 exact ⟨by rw [← aGv 0 l]; rfl,hM.below⟩
theorem aGM (a : As) (aT aP aR : Option Addr) (cT cP cR : Nat) (w : World) {U : View} (hU : See U w) (hA : aEH U aT aP aR a) (hc : a.t.length ≤ cT) : CP 134 #[asV a aT aP aR cT cP cR] w (Ret (.bool (dV a)) w) := by
 have fA1 := hA.t
 have fA2 := hA.p
 have fA3 := hA.r
 have e1 : decide (1 ≤ a.t.length) = !decide ((a.t.length : Int) < 1) := by rw [← decide_not]; exact decide_eq_decide.2 oW
 have e2 : decide (a.t.length ≤ 16) = !decide ((a.t.length : Int) > 16) := by rw [← decide_not]; exact decide_eq_decide.2 oW
 have e3 : decide (a.p.length ≤ 8) = !decide ((a.p.length : Int) > 8) := by rw [← decide_not]; exact decide_eq_decide.2 oW
 have e4 : decide (a.r.length = a.t.length) = !((a.r.length : Int) != (a.t.length : Int)) := by
  by_cases h : a.r.length = a.t.length
  · rw [h]; simp
  · rw [decide_eq_false h,show ((a.r.length : Int) != (a.t.length : Int)) = true from bne_iff_ne.2 oW]; rfl
 refine eG 52 Tryz.func134 hU ?_
 refine zs (zr (cJ (fun b0 => (zq 1 (zn (zB [0,1,0,0] [(b0,1)] (zn (zs (zQ 3 (aK 9 (decide ((a.t.length : Int) < 1)) (fun h0 => ?_) (fun h0 => ?_)))))))))))
 ·
  refine zq 21 (zn (dF (zQ 1 (zn (aA (aH [2] [(.bool false)] (fun W' hM => ?_)))))))
  refine ⟨?_,hM.below⟩
  unfold dV
  rw [e1,e2,e3,e4]
  simp only [cG,h0,Bool.not_not,bs,bQ,reduceIte]
 ·
  have h0d := of_decide_eq_false h0
  refine zq 4 (aK 13 (decide ((a.t.length : Int) > 16)) (fun h1 => ?_) (fun h1 => ?_))
  ·
   refine zq 17 (zn (dF (zQ 1 (zn (aA (aH [2] [(.bool false)] (fun W' hM => ?_)))))))
   refine ⟨?_,hM.below⟩
   unfold dV
   rw [e1,e2,e3,e4]
   simp only [cG,h0,h1,Bool.not_not,bs,bQ,reduceIte]
  ·
   have h1d := of_decide_eq_false h1
   refine cU [0,1] [(b0,1)] (dA 171 #[(.slice aT a.t.length cT)] (.bool (jL a.t)) (fun W hM => aBY a.t _ _ W hM.view fA1 hc) ?_)
   refine zq 3 (aK 19 (!(jL a.t)) (fun h2 => ?_) (fun h2 => ?_))
   ·
    refine zq 11 (zn (dF (zQ 1 (zn (aA (aH [2] [(.bool false)] (fun W' hM => ?_)))))))
    simp only [Bool.not_eq_true',Bool.not_eq_false'] at h2
    refine ⟨?_,hM.below⟩
    unfold dV
    rw [e1,e2,e3,e4]
    simp only [cG,h0,h1,h2,Bool.not_not,bs,bQ,reduceIte]
   ·
    refine cU [0,1] [(b0,1)] (dL (fun W hM => aCJ a.c W) (zq 3 (aK 25 (!(gS a.c)) (fun h3 => ?_) (fun h3 => ?_))))
    ·
     refine zq 5 (zn (dF (zQ 1 (zn (aA (aH [2] [(.bool false)] (fun W' hM => ?_)))))))
     simp only [Bool.not_eq_true',Bool.not_eq_false'] at h2
     simp only [Bool.not_eq_true',Bool.not_eq_false'] at h3
     refine ⟨?_,hM.below⟩
     unfold dV
     rw [e1,e2,e3,e4]
     simp only [cG,h0,h1,h2,h3,Bool.not_not,bs,bQ,reduceIte]
    ·
     refine cU [0,1] [(b0,4)] (dL (fun W hM => iW a.s W hA.s.l) (zq 2 (zn (cD (!(aX a.s)) (fun h4 => ?_) (fun h4 => ?_)))))
     ·
      refine zQ 1 (zn (aA (aH [2] [(.bool false)] (fun W' hM => ?_))))
      simp only [Bool.not_eq_true',Bool.not_eq_false'] at h2
      simp only [Bool.not_eq_true',Bool.not_eq_false'] at h3
      simp only [Bool.not_eq_true',Bool.not_eq_false'] at h4
      refine ⟨?_,hM.below⟩
      unfold dV
      rw [e1,e2,e3,e4]
      simp only [cG,h0,h1,h2,h3,h4,Bool.not_not,bs,bQ,reduceIte]
     ·
      refine zk (zs (zB [0,1,0,0,0] [(b0,1)] (aK 35 (decide ((a.p.length : Int) > 8)) (fun h5 => ?_) (fun h5 => ?_))))
      ·
       refine zq 12 (zn (dF (zQ 1 (zn (aA (aH [2] [(.bool false)] (fun W' hM => ?_)))))))
       simp only [Bool.not_eq_true',Bool.not_eq_false'] at h2
       simp only [Bool.not_eq_true',Bool.not_eq_false'] at h3
       simp only [Bool.not_eq_true',Bool.not_eq_false'] at h4
       refine ⟨?_,hM.below⟩
       unfold dV
       rw [e1,e2,e3,e4]
       simp only [cG,h0,h1,h2,h3,h4,h5,Bool.not_not,bs,bQ,reduceIte]
      ·
       have h5d := of_decide_eq_false h5
       refine cU [0,1] [(b0,1)] (dA 173 #[(.slice aP a.p.length cP)] (.bool (jB a.p)) (fun W hM => aDO a.p _ _ W hM.view fA2 oW) ?_)
       refine zq 3 (aK 41 (!(jB a.p)) (fun h6 => ?_) (fun h6 => ?_))
       ·
        refine zq 6 (zn (dF (zQ 1 (zn (aA (aH [2] [(.bool false)] (fun W' hM => ?_)))))))
        simp only [Bool.not_eq_true',Bool.not_eq_false'] at h2
        simp only [Bool.not_eq_true',Bool.not_eq_false'] at h3
        simp only [Bool.not_eq_true',Bool.not_eq_false'] at h4
        simp only [Bool.not_eq_true',Bool.not_eq_false'] at h6
        refine ⟨?_,hM.below⟩
        unfold dV
        rw [e1,e2,e3,e4]
        simp only [cG,h0,h1,h2,h3,h4,h5,h6,Bool.not_not,bs,bQ,reduceIte]
       ·
        refine cU [0,1,0,0,0,0] [(b0,1)] (zn (cD ((a.r.length : Int) != (a.t.length : Int)) (fun h7 => ?_) (fun h7 => ?_)))
        ·
         refine zQ 1 (zn (aA (aH [2] [(.bool false)] (fun W' hM => ?_))))
         simp only [Bool.not_eq_true',Bool.not_eq_false'] at h2
         simp only [Bool.not_eq_true',Bool.not_eq_false'] at h3
         simp only [Bool.not_eq_true',Bool.not_eq_false'] at h4
         simp only [Bool.not_eq_true',Bool.not_eq_false'] at h6
         refine ⟨?_,hM.below⟩
         unfold dV
         rw [e1,e2,e3,e4]
         simp only [cG,h0,h1,h2,h3,h4,h5,h6,h7,Bool.not_not,bs,bQ,reduceIte]
        ·
         refine zk (zB [0,1] [(b0,1)] (dA 174 #[(.slice aR a.r.length cR),(.func (.func 175) #[] #[])] (.bool (!a.r.all aBP)) (fun W hM => aHC a.r _ _ W hM.view fA3) ?_))
         refine zq 2 (zn (aA (aH [2] [(.bool (!(!a.r.all aBP)))] (fun W' hM => ?_))))
         simp only [Bool.not_eq_true',Bool.not_eq_false'] at h2
         simp only [Bool.not_eq_true',Bool.not_eq_false'] at h3
         simp only [Bool.not_eq_true',Bool.not_eq_false'] at h4
         simp only [Bool.not_eq_true',Bool.not_eq_false'] at h6
         refine ⟨?_,hM.below⟩
         unfold dV
         rw [e1,e2,e3,e4]
         simp only [cG,h0,h1,h2,h3,h4,h5,h6,h7,Bool.not_not,bs,bQ,reduceIte]
theorem idU {n : Int} (h : 0 ≤ n ∧ n ≤ 65535) : IntKind.u64.wrap n = (n.toNat : Int) := by
 have := u64_in (x := n) oW oW
 omega
theorem aEA (l : List Pa) (a : Option Addr) (c : Nat) (w : World) {U : View} (hU : See U w) (hl : iM PaR 6 U a l) (hid : ∀ p ∈ l, 0 ≤ p.id ∧ p.id ≤ 65535) (h47 : l.length ≤ 1000) : CP 176 #[.slice a l.length c] w (rO w U (qC (lR l))) := by
 refine eG 26 Tryz.func176 hU ?_
 refine zs (zr (cJ (fun b0 => (zn (zQ 1 (zn (zs (zQ 3 (zn (aB (gX (α := Gp Itm.Tr) (fun x => [2,3,6,7,8].zip [(Pt b0 0),(x.r.V x.i),(.slice a l.length c),(L6 l.length),(L6 x.i)]) (fun x => x.V) (fun x => ([(b0,.cells [(I6 0),(U6 0),(St []),S0,(.bool false)].toArray 89 (0,0))] ++ x.r.B 89 x.xs)) (fun x => x.i ≤ l.length ∧ View.le U x.V ∧ RwR TV 5 x.V x.r x.xs x.i x.L ∧ x.L.map Prod.fst = (l.take x.i).map Pa.tree) (fun x => l.length - x.i) ⟨0,Rw.nil,[],[],U⟩ ?_ ?_ (hm := fun _ h => h.eqv (Eq.trans kR (List.append_nil ([(b0,.cells [(I6 0),(U6 0),(St []),S0,(.bool false)].toArray 89 (0,0))] : aF)).symm)))))))))))))
 · exact ⟨Nat.zero_le _,View.le_refl _,RwR.nil,rfl⟩
 intro x hx
 obtain ⟨hxi,hxl,hxr,hxp⟩ := hx
 refine zQ 1 (zn (zs (cD (decide ((x.i : Int) < (l.length : Int))) (fun h0 => ?_) (fun h0 => ?_))))
 ·
  have h0d := of_decide_eq_true h0
  refine zk (zs (aB (zs (zr ?_))))
  obtain ⟨y1,hy1⟩ : ∃ y,(l)[x.i]? = some y := ⟨(l)[x.i]'oW,List.getElem?_eq_getElem _⟩
  obtain ⟨b1,f1,cs1,rfl,hU1,hR1⟩ := (hl.le hxl).at_ x.i y1 hy1
  obtain ⟨ct1,rfl,ht1⟩ := hR1
  obtain ⟨a1,c1,rfl,hts1,hn1,hs1,hl1⟩ := ht1.form
  have hidy1 := hid y1 (List.mem_of_getElem? hy1)
  refine cH (Pt b1 (f1 + x.i * 6)) (rIx 92 rfl b1 f1 l.length c x.i 6) ?_
  refine zU b1 (f1 + x.i * 6) [(I6 y1.id),(I6 y1.v.k),(N6 y1.v.n),(St y1.v.s),(.slice a1 y1.v.l.length c1),(.bool y1.v.o)] hU1 92 (.tmp 10) _ Tryz.underlying92 rfl ?_
  refine dN 1 (fun b2 => ?_)
  refine aY 1 b2 (zn ?_)
  refine aBM 4 [0,0,4,1,1,0,4,1,1,1] [(b2,1),(b2,5)] [.val (N6 y1.id.toNat),.val (iV y1.id.toNat),.mem (fun v V => ∃ g,v = (Sl g 0 2 2) ∧ fG V (some ⟨g,0,none⟩) [(Itm.cN y1.id.toNat),y1.v]),.mem (fun v V => ∃ g,v = (.agg #[.int .i64 4,.int .u64 0,.string (B []),.slice (some ⟨g,0,none⟩) 2 2,.bool false]) ∧ fG V (some ⟨g,0,none⟩) [(Itm.cN y1.id.toNat),y1.v]),.mem (fun v V => ∃ g,v = (Sl g 0 1 1) ∧ fG V (some ⟨g,0,none⟩) [(Itm.dH [(Itm.cN y1.id.toNat),y1.v])])] (by simp only [List.forall_mem_cons]; exact ⟨trivial,trivial,by intro v V V2 hV2 hP; (first | trivial | exact PhiMono.go hP hV2 | (obtain ⟨g,e,hP⟩ := hP; exact ⟨g,e,hP.le hV2⟩)),by intro v V V2 hV2 hP; (first | trivial | exact PhiMono.go hP hV2 | (obtain ⟨g,e,hP⟩ := hP; exact ⟨g,e,hP.le hV2⟩)),by intro v V V2 hV2 hP; (first | trivial | exact PhiMono.go hP hV2 | (obtain ⟨g,e,hP⟩ := hP; exact ⟨g,e,hP.le hV2⟩)),fun _ h => by cases h⟩) ⟨?_,?_,?_,?_,?_,trivial⟩ ?_
  · exact wE (U6 (IntKind.u64.wrap y1.id)) (congrArg (Value.int .u64) (idU hidy1))
  ·
   refine wV 40 (fun u => #[(N6 y1.id.toNat)]) fun u V hV hdq W hW => ?_
   exact dM _ W
  ·
   refine wN [16,18] (fun u => [(iV y1.id.toNat),(tV y1.v a1 c1)]) fun u V hV hdq => ?_
   refine ⟨[(I6 0),(N6 y1.id.toNat),(St []),S0,(.bool false),(I6 y1.v.k),(N6 y1.v.n),(St y1.v.s),(.slice a1 y1.v.l.length c1),(.bool y1.v.o)],89,fun r => (Sl r 0 2 2),?_,fun g V' hV' hR => ?_⟩
   · kernel_rfl
   exact ⟨g,rfl,fG.lit [((Itm.cN y1.id.toNat),(iN y1.id.toNat)),(y1.v,(tC y1.v a1 c1))] hR ⟨((TV.num _ y1.id.toNat (by first | assumption | decide | (unfold W64; omega))).le hV).le hV',(ht1.le hV).le hV',trivial⟩ (show 2 ≤ R47 by decide)⟩
  ·
   refine wM 178 (fun u => #[u 7]) fun u V hV hdq W hW => ?_
   have e7 := hdq 7 kR rfl
   obtain ⟨g7,q7,t7⟩ := e7
   rw [q7]
   exact Calls.retN hW (dW _ _ _ W) ⟨g7,rfl,t7⟩
  ·
   refine wN [20] (fun u => [u 8]) fun u V hV hdq => ?_
   have e8 := hdq 8 kR rfl
   obtain ⟨g8,q8,t8⟩ := e8
   refine ⟨[(I6 4),(U6 0),(St []),(Sl g8 0 2 2),(.bool false)],89,fun r => (Sl r 0 1 1),?_,fun g V' hV' hR => ?_⟩
   · rw [q8]; kernel_rfl
   exact ⟨g,rfl,fG.lit [((Itm.dH [(Itm.cN y1.id.toNat),y1.v]),[(I6 4),(U6 0),(St []),(Sl g8 0 2 2),(.bool false)])] hR ⟨(TV.list 2 t8).le hV',trivial⟩ (show 1 ≤ R47 by decide)⟩
  intro u3 V3 hV3 hdq3
  have k8 := hxr.le hV3
  have e7_3 := hdq3 7 rfl
  obtain ⟨g7_3,q7_3,t7_3⟩ := e7_3
  refine aLH 19 q7_3 ?_
  have e8_3 := hdq3 8 rfl
  obtain ⟨g8_3,q8_3,t8_3⟩ := e8_3
  refine aLH 20 q8_3 ?_
  have e9_3 := hdq3 9 rfl
  obtain ⟨g9_3,q9_3,t9_3⟩ := e9_3
  refine aLH 21 q9_3 ?_
  obtain ⟨bb9,ff9,L9,e9,hF9,hA9,hG9⟩ := t9_3.open (by simp)
  cases e9
  have hN9 : L9.length = 1 := by rw [← List.length_map (f := Prod.fst),hF9]; rfl
  refine tT 2 89 87 64 1 1 hxr.ok (fun W hM => View.range_of hG9 hM.view) (by rw [hA9.flat_len,hN9]) hA9.one (by decide) (fun r10 hr10 => ?_)
  refine zq 1 (zn (zr (zq 1 (eV 23 ((x.i : Int) + 1) (zq 1 (zn ?_))))))
  refine nx ⟨x.i + 1,r10,(x.xs ++ (L9.flatMap Prod.snd)),x.L ++ L9,V3⟩ ?_ ?_ (d := fun _ h => Mem.sub (List.Sublist.append (List.sublist_append_left _ _) (List.Sublist.refl _)) (h.eqv (show _ = ((([(b0,.cells [(I6 0),(U6 0),(St []),S0,(.bool false)].toArray 89 (0,0))] : aF) ++ ([(bK b2 [(I6 y1.id),(I6 y1.v.k),(N6 y1.v.n),(St y1.v.s),(.slice a1 y1.v.l.length c1),(.bool y1.v.o)] 92)] : aF)) ++ (r10.B 89 (x.xs ++ (L9.flatMap Prod.snd)))) from by kernel_rfl)))
  · exact ⟨by show x.i + 1 ≤ _; omega,(View.le_trans hxl hV3),RwR.app k8 (aJ0 hA9) hN9 hr10,by rw [List.map_append,hxp,hF9,eX Pa.tree hy1]; rfl⟩
  · show l.length - (x.i + 1) < l.length - x.i; omega
 ·
  have h0d := of_decide_eq_false h0
  refine aU (zQ 1 ?_)
  refine aAx 24 x.r x.xs 5 x.i [(b0,.cells [(I6 0),(U6 0),(St []),S0,(.bool false)].toArray 89 (0,0))] 89 kR hxr.ok kR (fun a11 c11 V11 hV11 hR11 hE11 => ?_)
  have k12 := hxr.le hV11
  have hT11 := (k12.done (by decide) hR11 (View.le_refl _) (by unfold R47; omega)).ts
  rw [hxp,List.take_of_length_le oW] at hT11
  rw [show x.i = (l.map Pa.tree).length by rw [List.length_map]; omega]
  refine dA 178 #[(.slice a11 (l.map Pa.tree).length c11)] (.agg #[(I6 4),(U6 0),(St []),(.slice a11 (l.map Pa.tree).length c11),(.bool false)]) (fun W hM => dW _ _ _ W) ?_
  refine aY 0 b0 (zn (aA (dU [1] [(b0,5)] [(.agg #[(I6 4),(U6 0),(St []),(.slice a11 (l.map Pa.tree).length c11),(.bool false)])] (fun W' hM => ?_))))
  exact cF hM (View.le_trans hxl hV11) ⟨[(I6 4),(U6 0),(St []),(.slice a11 (l.map Pa.tree).length c11),(.bool false)],rfl,((TV.list c11 hT11)).cast (by simp only [lR,h0,bs,bQ,reduceIte,List.append_nil])⟩
theorem aHI (a : As) (aT aP aR : Option Addr) (cT cP cR : Nat) (w : World) {U : View} (hU : See U w) (hA : aEH U aT aP aR a) (hs : dV a = true) : CP 135 #[asV a aT aP aR cT cP cR] w (rO w U (aOc a.items)) := by
 have fA1 := hA.t
 have fA2 := hA.p
 have fA3 := hA.r
 unfold dV at hs
 simp only [Bool.and_eq_true,decide_eq_true_eq] at hs
 obtain ⟨⟨⟨⟨⟨⟨⟨⟨h1,h2⟩,h3⟩,h4⟩,h5⟩,h6⟩,h7⟩,h8⟩,h9⟩ := hs
 have hct := jT h3
 have hcc := mC h4
 have hcp := iB h7
 have hcr : ∀ l ∈ a.r,(∀ p ∈ l,0 ≤ p.id ∧ p.id ≤ 65535) ∧ l.length ≤ 4 := fun l hl => by
  have := List.all_eq_true.1 h9 l hl
  unfold aBP at this
  simp only [Bool.and_eq_true,decide_eq_true_eq] at this
  exact ⟨iB this.2,this.1.2⟩
 have hw4 := idU hcc
 refine eG 67 Tryz.func135 hU ?_
 refine zs (zr (cJ (fun b0 => (zq 1 (zn (zQ 2 (zn (zs (zB [0,1,0,0] [(b0,1)] (zn (aB (gX (α := Gp2) (fun x => [1,2,3,4,11,12,13].zip [(Pt b0 0),S0,(x.r.V x.i),(x.r2.V x.i),(.slice aT a.t.length cT),(L6 a.t.length),(L6 x.i)]) (fun x => x.V) (fun x => ([(bK b0 [(.slice aT a.t.length cT),(I6 a.c),(I6 a.s.s),(St a.s.l),(N6 a.s.n),(N6 a.s.v),(.slice aP a.p.length cP),(.slice aR a.r.length cR)] 96)] ++ x.r.B 89 x.xs ++ x.r2.B 89 x.xs2)) (fun x => x.i ≤ a.t.length ∧ View.le U x.V ∧ RwR TV 5 x.V x.r x.xs x.i x.L ∧ RwR TV 5 x.V x.r2 x.xs2 x.i x.L2 ∧ x.L.map Prod.fst = (a.t.take x.i).map (fun n => Itm.cN n.toNat) ∧ x.L2.map Prod.fst = (a.r.take x.i).map lR) (fun x => a.t.length - x.i) ⟨0,Rw.nil,[],[],Rw.nil,[],[],U⟩ ?_ ?_ (hm := fun _ h => h.eqv (Eq.trans kR ((List.append_nil (([(bK b0 [(.slice aT a.t.length cT),(I6 a.c),(I6 a.s.s),(St a.s.l),(N6 a.s.n),(N6 a.s.v),(.slice aP a.p.length cP),(.slice aR a.r.length cR)] 96)] : aF) ++ [])).trans (List.append_nil ([(bK b0 [(.slice aT a.t.length cT),(I6 a.c),(I6 a.s.s),(St a.s.l),(N6 a.s.n),(N6 a.s.v),(.slice aP a.p.length cP),(.slice aR a.r.length cR)] 96)] : aF))).symm))))))))))))))
 · exact ⟨Nat.zero_le _,View.le_refl _,RwR.nil,RwR.nil,rfl,rfl⟩
 intro x hx
 obtain ⟨hxi,hxl,hxr,hxr2,hx5,hx6⟩ := hx
 refine zQ 1 (zn (zs (cD (decide ((x.i : Int) < (a.t.length : Int))) (fun h0 => ?_) (fun h0 => ?_))))
 ·
  have h0d := of_decide_eq_true h0
  refine zk (zs (aB (zQ 1 ?_)))
  obtain ⟨y1,hy1⟩ : ∃ y,(a.t)[x.i]? = some y := ⟨(a.t)[x.i]'oW,List.getElem?_eq_getElem _⟩
  obtain ⟨b1,f1,rfl,hU1⟩ := (fA1.le hxl).one hy1
  have hidy1 := hct y1 (List.mem_of_getElem? hy1)
  refine cH (Pt b1 (f1 + x.i)) (fW _ 3 _ _ rfl b1 f1 a.t.length cT x.i .i64 kR kR (by first | assumption | omega) kR kR) ?_
  refine zV b1 (f1 + x.i) (I6 y1) hU1 3 (.tmp 16) _ Tryz.underlying3 rfl ?_
  refine zq 2 (zn (zQ 3 (eE 20 (U6 (IntKind.u64.wrap y1)) (N6 y1.toNat) (congrArg (Value.int .u64) (idU hidy1)) ?_)))
  refine dA 40 #[(N6 y1.toNat)] (iV y1.toNat) (fun W hM => dM _ W) ?_
  refine dN 1 (fun b2 => ?_)
  refine rX [(bK b0 [(Sl b1 f1 a.t.length cT),(I6 a.c),(I6 a.s.s),(St a.s.l),(N6 a.s.n),(N6 a.s.v),(.slice aP a.p.length cP),(.slice aR a.r.length cR)] 96),(b2,.cells (iN y1.toNat).toArray 89 (0,0))] (x.r.B 89 x.xs) (x.r2.B 89 x.xs2) kR ?_
  refine fV x.r x.xs x.i ([(bK b0 [(Sl b1 f1 a.t.length cT),(I6 a.c),(I6 a.s.s),(St a.s.l),(N6 a.s.n),(N6 a.s.v),(.slice aP a.p.length cP),(.slice aR a.r.length cR)] 96),(b2,.cells (iN y1.toNat).toArray 89 (0,0))] ++ x.r2.B 89 x.xs2) 89 87 5 64 1 kR hxr.ok (.tmp 18) (.tmp 22) rfl kR b2 0 1 (iN y1.toNat) kR (fun W hM => cW hM 1 b2 (iN y1.toNat) 89 kR) rfl (List.all_eq_true.1 kR) (by decide) (by unfold maxLen; omega) oW kR kR kR kR kR (fun r3 hr3 => ?_)
  refine zq 1 (zn (zr (cU [0,0,1,0] [(b0,1)] ?_)))
  obtain ⟨y4,hy4⟩ : ∃ y,(a.r)[x.i]? = some y := ⟨(a.r)[x.i]'oW,List.getElem?_eq_getElem _⟩
  obtain ⟨b4,f4,cs4,rfl,hU4,hR4⟩ := (fA3.le hxl).at_ x.i y4 hy4
  obtain ⟨a4,c4,rfl,hp4⟩ := hR4
  have hW4 := View.range1 hU4
  have hidy4 := hcr y4 (List.mem_of_getElem? hy4)
  refine cH (Pt b4 (f4 + x.i)) (fW _ 93 _ _ rfl b4 f4 a.r.length cR x.i .i64 kR kR (by first | assumption | omega) kR kR) ?_
  refine zV b4 (f4 + x.i) (.slice a4 y4.length c4) hW4 93 (.tmp 28) _ Tryz.underlying93 rfl ?_
  refine aAn 176 #[(.slice a4 y4.length c4)] (qC (lR y4)) (fun W hM => aEA y4 _ _ W hM.view hp4 hidy4.1 (by have := hidy4.2; omega)) (fun v5 V5 hV5 hP5 => ?_)
  have k10 := (TV.num _ y1.toNat (by first | assumption | decide | (unfold W64; omega))).le hV5
  have k11 := hxr2.le hV5
  have k12 := hxr.le hV5
  obtain ⟨cs5,rfl,ht5⟩ := hP5
  obtain ⟨a5,c5,rfl,hts5,hn5,hs5,hl5⟩ := ht5.form
  refine dN 2 (fun b13 => ?_)
  refine rX [(bK b0 [(Sl b1 f1 a.t.length cT),(I6 a.c),(I6 a.s.s),(St a.s.l),(N6 a.s.n),(N6 a.s.v),(.slice aP a.p.length cP),(Sl b4 f4 a.r.length cR)] 96),(b2,.cells (iN y1.toNat).toArray 89 (0,0)),(bK b13 (tC (lR y4) a5 c5) 89)] (x.r2.B 89 x.xs2) (r3.B 89 (x.xs ++ (iN y1.toNat))) kR ?_
  refine fV x.r2 x.xs2 x.i ([(bK b0 [(Sl b1 f1 a.t.length cT),(I6 a.c),(I6 a.s.s),(St a.s.l),(N6 a.s.n),(N6 a.s.v),(.slice aP a.p.length cP),(Sl b4 f4 a.r.length cR)] 96),(b2,.cells (iN y1.toNat).toArray 89 (0,0)),(bK b13 (tC (lR y4) a5 c5) 89)] ++ r3.B 89 (x.xs ++ (iN y1.toNat))) 89 87 5 64 1 kR hxr2.ok (.tmp 24) (.tmp 31) rfl kR b13 0 1 (tC (lR y4) a5 c5) kR (fun W hM => cW hM 2 b13 (tC (lR y4) a5 c5) 89 kR) rfl (List.all_eq_true.1 kR) (by decide) (by unfold maxLen; omega) oW kR kR kR kR kR (fun r14 hr14 => ?_)
  refine zq 1 (zn (zr (zq 1 (eV 33 ((x.i : Int) + 1) (zq 1 (zn ?_))))))
  refine nx ⟨x.i + 1,r3,(x.xs ++ (iN y1.toNat)),x.L ++ [((Itm.cN y1.toNat),(iN y1.toNat))],r14,(x.xs2 ++ (tC (lR y4) a5 c5)),x.L2 ++ [((lR y4),(tC (lR y4) a5 c5))],V5⟩ ?_ ?_ (d := fun _ h => Mem.sub (List.Sublist.append (List.Sublist.append (List.sublist_append_left _ _) (List.Sublist.refl _)) (List.Sublist.refl _)) (h.eqv (show _ = (((([(bK b0 [(Sl b1 f1 a.t.length cT),(I6 a.c),(I6 a.s.s),(St a.s.l),(N6 a.s.n),(N6 a.s.v),(.slice aP a.p.length cP),(Sl b4 f4 a.r.length cR)] 96)] : aF) ++ ([(b2,.cells (iN y1.toNat).toArray 89 (0,0)),(bK b13 (tC (lR y4) a5 c5) 89)] : aF)) ++ (r3.B 89 (x.xs ++ (iN y1.toNat)))) ++ (r14.B 89 (x.xs2 ++ (tC (lR y4) a5 c5)))) from by kernel_rfl)))
  · exact ⟨by show x.i + 1 ≤ _; omega,(View.le_trans hxl hV5),RwR.snoc k12 k10 hr3,RwR.snoc k11 ht5 hr14,by rw [List.map_append,hx5,eX _ hy1]; rfl,by rw [List.map_append,hx6,eX _ hy4]; rfl⟩
  · show a.t.length - (x.i + 1) < a.t.length - x.i; omega
 ·
  have h0d := of_decide_eq_false h0
  refine aU (zB [0,1] [(b0,4)] (aED (fun W hM => oB a.s W hM.view hA.s h5) (fun v15 V15 hV15 hP15 => ?_)))
  have k17 := (fA2.le hxl).le hV15
  have k19 := hxr.le hV15
  have k20 := hxr2.le hV15
  obtain ⟨cs15,rfl,ht15⟩ := hP15
  obtain ⟨a15,c15,rfl,hts15,hn15,hs15,hl15⟩ := ht15.form
  refine zq 3 (dN 1 (fun b21 => ?_))
  refine aY 1 b21 ?_
  refine rX [(bK b0 [(.slice aT a.t.length cT),(I6 a.c),(I6 a.s.s),(St a.s.l),(N6 a.s.n),(N6 a.s.v),(.slice aP a.p.length cP),(.slice aR a.r.length cR)] 96),(bK b21 (tC a.s.tree a15 c15) 89)] (x.r.B 89 x.xs) (x.r2.B 89 x.xs2) kR ?_
  refine aAx 3 x.r x.xs 5 x.i ([(bK b0 [(.slice aT a.t.length cT),(I6 a.c),(I6 a.s.s),(St a.s.l),(N6 a.s.n),(N6 a.s.v),(.slice aP a.p.length cP),(.slice aR a.r.length cR)] 96),(bK b21 (tC a.s.tree a15 c15) 89)] ++ x.r2.B 89 x.xs2) 89 kR hxr.ok kR (fun a22 c22 V22 hV22 hR22 hE22 => ?_)
  have k25 := k17.le hV22
  have k27 := ht15.le hV22
  have k28 := k20.le hV22
  have k29 := k19.le hV22
  have hT22 := (k29.done (by decide) hR22 (View.le_refl _) (by unfold R47; omega)).ts
  rw [hx5,List.take_of_length_le oW] at hT22
  have hn22 : x.i = (a.t.map (fun n : Int => Itm.cN n.toNat)).length := by rw [List.length_map]; omega
  refine zq 1 (zn (zs ?_))
  have hTL22 := TV.list c22 hT22
  rw [← hn22] at hTL22
  refine gU 3 [0,1,0,3,1,1,1,4] [(b0,1),(b21,5)] [.val (.agg #[(I6 4),(U6 0),(St []),(.slice a22 x.i c22),(.bool false)]),.val (N6 a.c.toNat),.val (iV a.c.toNat),.val (.agg #[(I6 0),(U6 0),(St []),S0,(.bool false)])] ⟨?_,?_,?_,?_,trivial⟩ ?_
  · exact vC 178 #[(.slice a22 x.i c22)] (fun W hM => dW _ _ _ W)
  · exact vE (U6 (IntKind.u64.wrap a.c)) (congrArg (Value.int .u64) hw4)
  · exact vC 40 #[(N6 a.c.toNat)] (fun W hM => dM _ W)
  · exact vC 40 #[(U6 0)] (fun W hM => dM _ W)
  refine dN 2 (fun b30 => ?_)
  refine zq 1 (zn (zs (zB [0,1,0,0] [(b0,1)] (zn (cD (decide ((a.p.length : Int) > 0)) (fun h1 => ?_) (fun h1 => ?_))))))
  ·
   have h1d := of_decide_eq_true h1
   refine zQ 1 (dA 40 #[(U6 1)] (.agg #[(I6 0),(U6 1),(St []),S0,(.bool false)]) (fun W hM => dM _ W) ?_)
   refine zq 1 (aY 2 b30 (zn (zr (cU [0,0,1] [(b0,1)] (aAn 176 #[(.slice aP a.p.length cP)] (qC (lR a.p)) (fun W hM => aEA a.p _ _ W hM.view k25 hcp oW) (fun v31 V31 hV31 hP31 => ?_))))))
   have k37 := k27.le hV31
   have k38 := hTL22.le hV31
   have k39 := (TV.num _ a.c.toNat (by first | assumption | decide | (unfold W64; omega))).le hV31
   have k41 := (TV.num _ 1 (by first | assumption | decide | (unfold W64; omega))).le hV31
   have k42 := k28.le hV31
   obtain ⟨cs31,rfl,ht31⟩ := hP31
   obtain ⟨a31,c31,rfl,hts31,hn31,hs31,hl31⟩ := ht31.form
   refine dN 3 (fun b43 => ?_)
   refine aFL [(bK b0 [(.slice aT a.t.length cT),(I6 a.c),(I6 a.s.s),(St a.s.l),(N6 a.s.n),(N6 a.s.v),(.slice aP a.p.length cP),(.slice aR a.r.length cR)] 96),(bK b21 (tC a.s.tree a15 c15) 89)] ([(bK b43 (tC (lR a.p) a31 c31) 89)] ++ x.r2.B 89 x.xs2) (b30,.cells [(I6 4),(U6 0),(St []),(.slice a22 x.i c22),(.bool false),(I6 0),(N6 a.c.toNat),(St []),S0,(.bool false),(I6 0),(U6 1),(St []),S0,(.bool false),(I6 a.s.tree.k),(N6 a.s.tree.n),(St a.s.tree.s),(.slice a15 a.s.tree.l.length c15),(.bool a.s.tree.o)].toArray 89 (0,0)) kR ?_
   refine fV (Rw.row b30 4 []) [(I6 4),(U6 0),(St []),(.slice a22 x.i c22),(.bool false),(I6 0),(N6 a.c.toNat),(St []),S0,(.bool false),(I6 0),(U6 1),(St []),S0,(.bool false),(I6 a.s.tree.k),(N6 a.s.tree.n),(St a.s.tree.s),(.slice a15 a.s.tree.l.length c15),(.bool a.s.tree.o)] 4 ([(bK b0 [(.slice aT a.t.length cT),(I6 a.c),(I6 a.s.s),(St a.s.l),(N6 a.s.n),(N6 a.s.v),(.slice aP a.p.length cP),(.slice aR a.r.length cR)] 96),(bK b21 (tC a.s.tree a15 c15) 89),(bK b43 (tC (lR a.p) a31 c31) 89)] ++ x.r2.B 89 x.xs2) 89 87 5 64 1 kR ⟨rfl,rfl,Nat.le_refl _,by decide⟩ (.tmp 56) (.tmp 60) rfl kR b43 0 1 (tC (lR a.p) a31 c31) kR (fun W hM => cW hM 2 b43 (tC (lR a.p) a31 c31) 89 kR) rfl (List.all_eq_true.1 kR) (by decide) (by unfold maxLen; omega) oW kR kR kR kR kR (fun r44 hr44 => ?_)
   refine zq 1 (zn (zQ 2 ?_))
   refine rX [(bK b0 [(.slice aT a.t.length cT),(I6 a.c),(I6 a.s.s),(St a.s.l),(N6 a.s.n),(N6 a.s.v),(.slice aP a.p.length cP),(.slice aR a.r.length cR)] 96),(bK b21 (tC a.s.tree a15 c15) 89),(bK b43 (tC (lR a.p) a31 c31) 89)] (x.r2.B 89 x.xs2) (r44.B 89 ([(I6 4),(U6 0),(St []),(.slice a22 x.i c22),(.bool false),(I6 0),(N6 a.c.toNat),(St []),S0,(.bool false),(I6 0),(U6 1),(St []),S0,(.bool false),(I6 a.s.tree.k),(N6 a.s.tree.n),(St a.s.tree.s),(.slice a15 a.s.tree.l.length c15),(.bool a.s.tree.o)] ++ (tC (lR a.p) a31 c31))) kR ?_
   refine aAx 63 x.r2 x.xs2 5 x.i ([(bK b0 [(.slice aT a.t.length cT),(I6 a.c),(I6 a.s.s),(St a.s.l),(N6 a.s.n),(N6 a.s.v),(.slice aP a.p.length cP),(.slice aR a.r.length cR)] 96),(bK b21 (tC a.s.tree a15 c15) 89),(bK b43 (tC (lR a.p) a31 c31) 89)] ++ r44.B 89 ([(I6 4),(U6 0),(St []),(.slice a22 x.i c22),(.bool false),(I6 0),(N6 a.c.toNat),(St []),S0,(.bool false),(I6 0),(U6 1),(St []),S0,(.bool false),(I6 a.s.tree.k),(N6 a.s.tree.n),(St a.s.tree.s),(.slice a15 a.s.tree.l.length c15),(.bool a.s.tree.o)] ++ (tC (lR a.p) a31 c31))) 89 kR hxr2.ok kR (fun a45 c45 V45 hV45 hR45 hE45 => ?_)
   have k51 := k37.le hV45
   have k52 := k38.le hV45
   have k53 := k39.le hV45
   have k55 := k41.le hV45
   have k56 := ht31.le hV45
   have k57 := k42.le hV45
   have hT45 := (k57.done (by decide) hR45 (View.le_refl _) (by unfold R47; omega)).ts
   rw [hx6,List.take_of_length_le oW] at hT45
   have hn45 : x.i = (a.r.map lR).length := by rw [List.length_map]; omega
   have hTL45 := TV.list c45 hT45
   rw [← hn45] at hTL45
   refine dA 178 #[(.slice a45 x.i c45)] (.agg #[(I6 4),(U6 0),(St []),(.slice a45 x.i c45),(.bool false)]) (fun W hM => dW _ _ _ W) ?_
   refine dN 3 (fun b58 => ?_)
   refine tT 4 89 87 64 1 1 hr44 (fun W hM => cW hM 3 b58 [(I6 4),(U6 0),(St []),(.slice a45 x.i c45),(.bool false)] 89 kR) rfl (List.all_eq_true.1 kR) (by decide) (fun r59 hr59 => ?_)
   refine zq 1 (zn (aA (aH [2] [(r59.V ((4 + 1) + 1))] (fun W' hM => ?_))))
   have hit : a.items = [(Itm.dH (a.t.map (fun n : Int => Itm.cN n.toNat))),(Itm.cN a.c.toNat),(Itm.cN 1),a.s.tree,(lR a.p),(Itm.dH (a.r.map lR))] := by unfold As.items; rw [if_neg oW]; rfl
   rw [hit]
   exact aFX (hM.eqv (show _ = ([(bK b0 [(.slice aT a.t.length cT),(I6 a.c),(I6 a.s.s),(St a.s.l),(N6 a.s.n),(N6 a.s.v),(.slice aP a.p.length cP),(.slice aR a.r.length cR)] 96),(bK b21 (tC a.s.tree a15 c15) 89),(bK b43 (tC (lR a.p) a31 c31) 89),(b58,.cells [(I6 4),(U6 0),(St []),(.slice a45 x.i c45),(.bool false)].toArray 89 (0,0))] : aF) ++ r59.B 89 (([(I6 4),(U6 0),(St []),(.slice a22 x.i c22),(.bool false),(I6 0),(N6 a.c.toNat),(St []),S0,(.bool false),(I6 0),(U6 1),(St []),S0,(.bool false),(I6 a.s.tree.k),(N6 a.s.tree.n),(St a.s.tree.s),(.slice a15 a.s.tree.l.length c15),(.bool a.s.tree.o)] ++ (tC (lR a.p) a31 c31)) ++ [(I6 4),(U6 0),(St []),(.slice a45 x.i c45),(.bool false)]) from by kernel_rfl)) hr59 (View.le_trans (View.le_trans (View.le_trans (View.le_trans hxl hV15) hV22) hV31) hV45) [((Itm.dH (a.t.map (fun n : Int => Itm.cN n.toNat))),[(I6 4),(U6 0),(St []),(.slice a22 x.i c22),(.bool false)]),((Itm.cN a.c.toNat),(iN a.c.toNat)),((Itm.cN 1),[(I6 0),(U6 1),(St []),S0,(.bool false)]),(a.s.tree,(tC a.s.tree a15 c15)),((lR a.p),(tC (lR a.p) a31 c31)),((Itm.dH (a.r.map lR)),[(I6 4),(U6 0),(St []),(.slice a45 x.i c45),(.bool false)])] kR ⟨k52,k53,k55,k51,k56,hTL45,trivial⟩ _ rfl rfl (by unfold R47; decide)
  ·
   have h1d := of_decide_eq_false h1
   refine zk (zQ 2 ?_)
   refine aAx 63 x.r2 x.xs2 5 x.i [(bK b0 [(.slice aT a.t.length cT),(I6 a.c),(I6 a.s.s),(St a.s.l),(N6 a.s.n),(N6 a.s.v),(.slice aP a.p.length cP),(.slice aR a.r.length cR)] 96),(bK b21 (tC a.s.tree a15 c15) 89),(b30,.cells [(I6 4),(U6 0),(St []),(.slice a22 x.i c22),(.bool false),(I6 0),(N6 a.c.toNat),(St []),S0,(.bool false),(I6 0),(U6 0),(St []),S0,(.bool false),(I6 a.s.tree.k),(N6 a.s.tree.n),(St a.s.tree.s),(.slice a15 a.s.tree.l.length c15),(.bool a.s.tree.o)].toArray 89 (0,0))] 89 kR hxr2.ok kR (fun a60 c60 V60 hV60 hR60 hE60 => ?_)
   have k66 := k27.le hV60
   have k67 := hTL22.le hV60
   have k68 := (TV.num _ a.c.toNat (by first | assumption | decide | (unfold W64; omega))).le hV60
   have k69 := (TV.num _ 0 (by first | assumption | decide | (unfold W64; omega))).le hV60
   have k70 := k28.le hV60
   have hT60 := (k70.done (by decide) hR60 (View.le_refl _) (by unfold R47; omega)).ts
   rw [hx6,List.take_of_length_le oW] at hT60
   have hn60 : x.i = (a.r.map lR).length := by rw [List.length_map]; omega
   have hTL60 := TV.list c60 hT60
   rw [← hn60] at hTL60
   refine dA 178 #[(.slice a60 x.i c60)] (.agg #[(I6 4),(U6 0),(St []),(.slice a60 x.i c60),(.bool false)]) (fun W hM => dW _ _ _ W) ?_
   refine cJ (fun b71 => ?_)
   refine aFL [(bK b0 [(.slice aT a.t.length cT),(I6 a.c),(I6 a.s.s),(St a.s.l),(N6 a.s.n),(N6 a.s.v),(.slice aP a.p.length cP),(.slice aR a.r.length cR)] 96),(bK b21 (tC a.s.tree a15 c15) 89)] ([(b71,.cells [(I6 4),(U6 0),(St []),(.slice a60 x.i c60),(.bool false)].toArray 89 (0,0))]) (b30,.cells [(I6 4),(U6 0),(St []),(.slice a22 x.i c22),(.bool false),(I6 0),(N6 a.c.toNat),(St []),S0,(.bool false),(I6 0),(U6 0),(St []),S0,(.bool false),(I6 a.s.tree.k),(N6 a.s.tree.n),(St a.s.tree.s),(.slice a15 a.s.tree.l.length c15),(.bool a.s.tree.o)].toArray 89 (0,0)) kR ?_
   refine fV (Rw.row b30 4 []) [(I6 4),(U6 0),(St []),(.slice a22 x.i c22),(.bool false),(I6 0),(N6 a.c.toNat),(St []),S0,(.bool false),(I6 0),(U6 0),(St []),S0,(.bool false),(I6 a.s.tree.k),(N6 a.s.tree.n),(St a.s.tree.s),(.slice a15 a.s.tree.l.length c15),(.bool a.s.tree.o)] 4 [(bK b0 [(.slice aT a.t.length cT),(I6 a.c),(I6 a.s.s),(St a.s.l),(N6 a.s.n),(N6 a.s.v),(.slice aP a.p.length cP),(.slice aR a.r.length cR)] 96),(bK b21 (tC a.s.tree a15 c15) 89),(b71,.cells [(I6 4),(U6 0),(St []),(.slice a60 x.i c60),(.bool false)].toArray 89 (0,0))] 89 87 5 64 1 kR ⟨rfl,rfl,Nat.le_refl _,by decide⟩ (.tmp 62) (.tmp 65) rfl kR b71 0 1 [(I6 4),(U6 0),(St []),(.slice a60 x.i c60),(.bool false)] kR (fun W hM => cW hM 2 b71 [(I6 4),(U6 0),(St []),(.slice a60 x.i c60),(.bool false)] 89 kR) rfl (List.all_eq_true.1 kR) (by decide) (by unfold maxLen; omega) oW kR kR kR kR kR (fun r72 hr72 => ?_)
   refine zq 1 (zn (aA (aH [2] [(r72.V (4 + 1))] (fun W' hM => ?_))))
   have hit : a.items = [(Itm.dH (a.t.map (fun n : Int => Itm.cN n.toNat))),(Itm.cN a.c.toNat),(Itm.cN 0),a.s.tree,(Itm.dH (a.r.map lR))] := by unfold As.items; rw [if_pos oW]; rfl
   rw [hit]
   exact aFX (hM.eqv (show _ = ([(bK b0 [(.slice aT a.t.length cT),(I6 a.c),(I6 a.s.s),(St a.s.l),(N6 a.s.n),(N6 a.s.v),(.slice aP a.p.length cP),(.slice aR a.r.length cR)] 96),(bK b21 (tC a.s.tree a15 c15) 89),(b71,.cells [(I6 4),(U6 0),(St []),(.slice a60 x.i c60),(.bool false)].toArray 89 (0,0))] : aF) ++ r72.B 89 ([(I6 4),(U6 0),(St []),(.slice a22 x.i c22),(.bool false),(I6 0),(N6 a.c.toNat),(St []),S0,(.bool false),(I6 0),(U6 0),(St []),S0,(.bool false),(I6 a.s.tree.k),(N6 a.s.tree.n),(St a.s.tree.s),(.slice a15 a.s.tree.l.length c15),(.bool a.s.tree.o)] ++ [(I6 4),(U6 0),(St []),(.slice a60 x.i c60),(.bool false)]) from by kernel_rfl)) hr72 (View.le_trans (View.le_trans (View.le_trans hxl hV15) hV22) hV60) [((Itm.dH (a.t.map (fun n : Int => Itm.cN n.toNat))),[(I6 4),(U6 0),(St []),(.slice a22 x.i c22),(.bool false)]),((Itm.cN a.c.toNat),(iN a.c.toNat)),((Itm.cN 0),[(I6 0),(U6 0),(St []),S0,(.bool false)]),(a.s.tree,(tC a.s.tree a15 c15)),((Itm.dH (a.r.map lR)),[(I6 4),(U6 0),(St []),(.slice a60 x.i c60),(.bool false)])] kR ⟨k67,k68,k69,k66,hTL60,trivial⟩ _ rfl rfl (by unfold R47; decide)
structure As.small (a : As) : Prop where
 s : a.s.l.length ≤ R47
 p : ∀ x ∈ a.p, x.v.s.length ≤ R47
 r : ∀ l ∈ a.r, ∀ x ∈ l, x.v.s.length ≤ R47
theorem aEH.small {U : View} {a1 a2 a3 : Option Addr} {a : As} (h : aEH U a1 a2 a3 a) : a.small :=
 ⟨h.s.l, fun x hx => by
  obtain ⟨cs, ct, _, ht⟩ := h.p.all hx
  obtain ⟨_, _, _, _, _, hs, _⟩ := ht.form
  exact hs, fun l hl x hx => by
  obtain ⟨cs, a, c, _, hp⟩ := h.r.all hl
  obtain ⟨cs, ct, _, ht⟩ := hp.all hx
  obtain ⟨_, _, _, _, _, hs, _⟩ := ht.form
  exact hs⟩
theorem aLG {B : Nat} : ∀ (l : List Itm.Tr), (∀ x ∈ l, Itm.szT x ≤ B) → Itm.szL l ≤ l.length * B
 | [], _ => by simp [Itm.szL]
 | x :: l, h => by
  have h1 := h x List.mem_cons_self
  have h2 := aLG l fun y hy => h y (List.mem_cons_of_mem _ hy)
  rw [Itm.szL, List.length_cons, Nat.add_mul]
  omega
theorem aCP {B n : Nat} {l : List Itm.Tr} (hl : l.length ≤ n) (h : ∀ x ∈ l, Itm.szT x ≤ B) : Itm.szT (Itm.dH l) ≤ 1 + n * B := by
 have h1 := aLG l h
 have h2 : l.length * B ≤ n * B := Nat.mul_le_mul_right B hl
 show Itm.szT (.mk 4 0 [] l false) ≤ _
 rw [Itm.szT]
 simp only [List.length_nil]
 omega
theorem aEK (n : Nat) : Itm.szT (Itm.cN n) ≤ 1 := by
 show Itm.szT (.mk 0 n [] [] false) ≤ 1
 rw [Itm.szT, Itm.szL]
 simp
theorem aKk {v : Itm.Tr} (hk : (v.k == 0 || v.k == 2) = true) (h : Itm.aN 8 v = true) (hs : v.s.length ≤ R47) : Itm.szT v ≤ 1 + R47 := by
 rw [Itm.aN, Bool.and_eq_true] at h
 have hl : v.l.length = 0 := by
  rcases Itm.oQ h.1 with ⟨_, _, h, _⟩ | ⟨_, _, h, _⟩ | ⟨_, _, h, _⟩ | ⟨h, _⟩
  · exact h
  · exact h
  · exact h
  · rw [h] at hk; cases hk
 obtain ⟨k, n, s, l, o⟩ := v
 obtain rfl := List.length_eq_zero_iff.1 (show l.length = 0 from hl)
 have hs' : s.length ≤ R47 := hs
 rw [Itm.szT, Itm.szL]
 omega
theorem aHY {l : List Pa} {n : Nat} (hl : l.length ≤ n) (h : jB l = true) (hs : ∀ x ∈ l, x.v.s.length ≤ R47) : Itm.szT (lR l) ≤ 1 + n * (1 + 2 * (1 + R47)) := by
 unfold jB at h
 rw [Bool.and_eq_true] at h
 refine aCP (by rw [List.length_map]; exact hl) fun x hx => ?_
 obtain ⟨p, hp, rfl⟩ := List.mem_map.1 hx
 refine aCP (n := 2) (by simp) fun y hy => ?_
 have hpa := List.all_eq_true.1 h.1 p hp
 unfold paB at hpa
 rw [Bool.and_eq_true] at hpa
 simp only [List.mem_cons, List.mem_nil_iff, or_false] at hy
 rcases hy with rfl | rfl
 · exact Nat.le_trans (aEK _) (Nat.le_add_right _ _)
 · exact aKk hpa.1 hpa.2 (hs p hp)
theorem aM0 {e : Ei} (h : e.l.length ≤ R47) : Itm.szT e.tree ≤ 10 + R47 := by
 unfold R47 at *
 unfold Ei.tree
 split
 · simp [Itm.dH, Itm.cN, Itm.szT, Itm.szL]
 ·
  split
  · simp [Itm.dH, Itm.cN, Itm.szT, Itm.szL]
  · simp [Itm.dH, Itm.cN, aHL, Itm.szT, Itm.szL]; omega
theorem aLe {a : As} (hs : a.small) (h : dV a = true) : ∀ x ∈ a.items, Itm.szT x ≤ aAT := by
 unfold dV at h
 simp only [Bool.and_eq_true, decide_eq_true_eq] at h
 obtain ⟨⟨⟨⟨⟨⟨⟨⟨h1, h2⟩, h3⟩, h4⟩, h5⟩, h6⟩, h7⟩, h8⟩, h9⟩ := h
 have q1 : Itm.szT (aLF a.t) ≤ 1 + 16 * 1 := aCP (by rw [List.length_map]; exact h2) fun x hx => by
  obtain ⟨n, _, rfl⟩ := List.mem_map.1 hx
  exact aEK _
 have q2 := aHY h6 h7 hs.p
 have q3 : Itm.szT (Itm.dH (a.r.map lR)) ≤ 1 + 16 * (1 + 4 * (1 + 2 * (1 + R47))) := aCP (by rw [List.length_map]; omega) fun x hx => by
  obtain ⟨l, hl, rfl⟩ := List.mem_map.1 hx
  have := List.all_eq_true.1 h9 l hl
  unfold aBP at this
  simp only [Bool.and_eq_true, decide_eq_true_eq] at this
  exact aHY this.1.2 this.2 (hs.r l hl)
 have q4 := aM0 hs.s
 have q5 := aEK
 intro x hx
 unfold aAT
 unfold R47 at *
 unfold As.items at hx
 split at hx
 ·
  simp only [List.mem_cons, List.mem_nil_iff, or_false] at hx
  rcases hx with rfl | rfl | rfl | rfl | rfl
  · omega
  · have := q5 a.c.toNat; omega
  · have := q5 0; omega
  · omega
  · omega
 ·
  simp only [List.mem_cons, List.mem_nil_iff, or_false] at hx
  rcases hx with rfl | rfl | rfl | rfl | rfl | rfl
  · omega
  · have := q5 a.c.toNat; omega
  · have := q5 1; omega
  · omega
  · omega
  · omega
theorem aI8 (a : As) : a.items.length ≤ 6 := by
 unfold As.items
 split <;> simp
theorem aFB {l : List Itm.Tr} {i : Nat} {y : Itm.Tr} (h : l[i]? = some y) : Itm.dG (l.take (i + 1)) = Itm.dG (l.take i) ++ Itm.aE y := Itm.aFA h
theorem aDt (a : As) (aT aP aR : Option Addr) (cT cP cR : Nat) (w : World) {U : View} (hU : See U w) (hA : aEH U aT aP aR a) (hs : dV a = true) : CP 90 #[asV a aT aP aR cT cP cR] w (Ret (.string (B a.bytes)) w) := by
 have fA1 := hA.t
 have fA2 := hA.p
 have fA3 := hA.r
 have hsz := aLe hA.small hs
 have hrt := aBr hs (d := 4)
 have hil := aI8 a
 refine eG 25 Tryz.func90 hU ?_
 refine zs (zr (cJ (fun b0 => (zq 1 (zn (zQ 1 (zn (zs (zB [1] [(b0,8)] (aAn 135 #[(.agg #[(.slice aT a.t.length cT),(I6 a.c),(I6 a.s.s),(St a.s.l),(N6 a.s.n),(N6 a.s.v),(.slice aP a.p.length cP),(.slice aR a.r.length cR)])] (aOc a.items) (fun W hM => aHI a _ _ _ _ _ _ W hM.view hA hs) (fun v1 V1 hV1 hP1 => ?_)))))))))))
 obtain ⟨a1,c1,rfl,hts1⟩ := hP1
 refine zq 2 (zn (aB (gX (α := Nat × List UInt8) (fun x => [2,3,9,10,11].zip [(St []),(St x.2),(.slice a1 a.items.length c1),(L6 a.items.length),(L6 x.1)]) (fun x => V1) (fun x => [(bK b0 [(.slice aT a.t.length cT),(I6 a.c),(I6 a.s.s),(St a.s.l),(N6 a.s.n),(N6 a.s.v),(.slice aP a.p.length cP),(.slice aR a.r.length cR)] 96)]) (fun x => x.1 ≤ a.items.length ∧ x.2 = Itm.dG (a.items.take x.1) ∧ x.2.length ≤ 800000000000000000 * x.1) (fun x => a.items.length - x.1) (0,[]) ?_ ?_)))
 · exact ⟨Nat.zero_le _,rfl,Nat.zero_le _⟩
 intro x hx
 obtain ⟨hx1,hx2,hx3⟩ := hx
 refine zQ 1 (zn (zs (cD (decide ((x.1 : Int) < (a.items.length : Int))) (fun h0 => ?_) (fun h0 => ?_))))
 ·
  have h0d := of_decide_eq_true h0
  refine zk (zs (aB (zs (zr ?_))))
  obtain ⟨y5,hy5⟩ : ∃ y,(a.items)[x.1]? = some y := ⟨(a.items)[x.1]'oW,List.getElem?_eq_getElem _⟩
  obtain ⟨b5,f5,cs5,rfl,hU5,ht5⟩ := hts1.at_ x.1 y5 hy5
  obtain ⟨a5,c5,rfl,hts5,hn5,hs5,hl5⟩ := ht5.form
  have hszy5 := hsz y5 (List.mem_of_getElem? hy5)
  have hry5 := hrt y5 (List.mem_of_getElem? hy5)
  have hbly5 := Itm.eM y5
  have hsyy5 := hszy5
  unfold aAT at hsyy5
  refine cH (Pt b5 (f5 + x.1 * 5)) (rIx 89 rfl b5 f5 a.items.length c1 x.1 5) ?_
  refine zU b5 (f5 + x.1 * 5) (tC y5 a5 c5) hU5 89 (.tmp 13) _ Tryz.underlying89 rfl ?_
  refine cJ (fun b6 => (aY 1 b6 (zn (zB [2] [(b6,5)] (dA 136 #[(tV y5 a5 c5)] (.tuple #[(St (Itm.aE y5)),(I6 0)]) (fun W hM => mW y5 _ hM.view ht5 hry5 hszy5) ?_)))))
  refine zq 5 (zn (zr (zq 2 (cH (St (x.2 ++ (Itm.aE y5))) (cE _ _ _ _ rfl x.2 (Itm.aE y5) kR kR oA) ?_))))
  refine zq 1 (zn (zr (zq 1 (eV 23 ((x.1 : Int) + 1) (zq 1 (zn ?_))))))
  refine nx (x.1 + 1,x.2 ++ Itm.aE y5) ?_ ?_ (d := fun _ h => Mem.sub (List.sublist_append_left _ _) (h.eqv (show _ = ([(bK b0 [(.slice aT a.t.length cT),(I6 a.c),(I6 a.s.s),(St a.s.l),(N6 a.s.n),(N6 a.s.v),(.slice aP a.p.length cP),(.slice aR a.r.length cR)] 96)] : aF) ++ ([(bK b6 (tC y5 a5 c5) 89)] : aF) from by kernel_rfl)))
  · exact ⟨by show x.1 + 1 ≤ _; omega,by show x.2 ++ Itm.aE y5 = _; rw [hx2,aFB hy5],by show (x.2 ++ Itm.aE y5).length ≤ _; rw [List.length_append]; omega⟩
  · show a.items.length - (x.1 + 1) < a.items.length - x.1; omega
 ·
  have h0d := of_decide_eq_false h0
  refine aU (zQ 2 (zn (aA (aH [2] [(St x.2)] (fun W' hM => ?_)))))
  refine ⟨?_,hM.below⟩
  unfold As.bytes
  rw [hx2,List.take_of_length_le oW]
  rfl
theorem aCI (a : As) (aT aP aR : Option Addr) (cT cP cR : Nat) (w : World) {U : View} (hU : See U w) (hA : aEH U aT aP aR a) (hc : a.t.length ≤ cT) : CP 89 #[asV a aT aP aR cT cP cR] w (Ret (.bool a.right) w) := by
 have fA1 := hA.t
 have fA2 := hA.p
 have fA3 := hA.r
 have e1 : decide (a.bytes.length ≤ 4000) = decide ((a.bytes.length : Int) ≤ 4000) := decide_eq_decide.2 oW
 refine eG 11 Tryz.func89 hU ?_
 refine zs (zr (cJ (fun b0 => (zq 1 (zn (zB [1] [(b0,8)] (dA 134 #[(.agg #[(.slice aT a.t.length cT),(I6 a.c),(I6 a.s.s),(St a.s.l),(N6 a.s.n),(N6 a.s.v),(.slice aP a.p.length cP),(.slice aR a.r.length cR)])] (.bool (dV a)) (fun W hM => aGM a _ _ _ _ _ _ W hM.view hA hc) ?_)))))))
 refine zq 1 (aK 5 (dV a) (fun h0 => ?_) (fun h0 => ?_))
 ·
  refine cU [1] [(b0,8)] (dA 90 #[(.agg #[(.slice aT a.t.length cT),(I6 a.c),(I6 a.s.s),(St a.s.l),(N6 a.s.n),(N6 a.s.v),(.slice aP a.p.length cP),(.slice aR a.r.length cR)])] (St a.bytes) (fun W hM => aDt a _ _ _ _ _ _ W hM.view hA h0) ?_)
  refine zq 4 (zn (aA (aH [2] [(.bool (decide ((((a.bytes).length : Nat) : Int) ≤ 4000)))] (fun W' hM => ?_))))
  refine ⟨?_,hM.below⟩
  unfold As.right
  rw [e1]
  simp only [cG,h0,bs,bQ,reduceIte]
 ·
  refine zq 6 (zn (aA (aH [2] [(.bool false)] (fun W' hM => ?_))))
  refine ⟨?_,hM.below⟩
  unfold As.right
  rw [e1]
  simp only [cG,h0,bs,bQ,reduceIte]
def As.outB (a : As) : List UInt8 := if a.right then a.bytes else []
def As.outZ (a : As) : Int := if a.right then 0 else 1
theorem As.shaped {a : As} (h : a.right = true) : dV a = true := by
 unfold As.right at h
 rw [Bool.and_eq_true] at h
 exact h.1
theorem aHJ (a : As) (aT aP aR : Option Addr) (cT cP cR : Nat) (w : World) {U : View} (hU : See U w) (hA : aEH U aT aP aR a) (hc : a.t.length ≤ cT) : CP 43 #[asV a aT aP aR cT cP cR] w (Ret (.tuple #[.string (B a.outB), .int .i64 a.outZ]) w) := by
 have fA1 := hA.t
 have fA2 := hA.p
 have fA3 := hA.r
 refine eG 9 Tryz.func43 hU ?_
 refine zs (zr (cJ (fun b0 => (zq 2 (zn (zs (zB [1] [(b0,8)] (dA 89 #[(.agg #[(.slice aT a.t.length cT),(I6 a.c),(I6 a.s.s),(St a.s.l),(N6 a.s.n),(N6 a.s.v),(.slice aP a.p.length cP),(.slice aR a.r.length cR)])] (.bool a.right) (fun W hM => aCI a _ _ _ _ _ _ W hM.view hA hc) ?_))))))))
 refine zq 1 (zn (cD (!a.right) (fun h0 => ?_) (fun h0 => ?_)))
 ·
  refine zQ 2 (zn (aA (aH [2,3] [(St []),(I6 1)] (fun W' hM => ?_))))
  simp only [Bool.not_eq_true',Bool.not_eq_false'] at h0
  refine ⟨?_,hM.below⟩
  unfold As.outB As.outZ
  simp only [cG,h0,bs,bQ,reduceIte]
 ·
  refine zk (zB [1] [(b0,8)] (dA 90 #[(.agg #[(.slice aT a.t.length cT),(I6 a.c),(I6 a.s.s),(St a.s.l),(N6 a.s.n),(N6 a.s.v),(.slice aP a.p.length cP),(.slice aR a.r.length cR)])] (St a.bytes) (fun W hM => aDt a _ _ _ _ _ _ W hM.view hA (As.shaped (by simpa using h0))) ?_))
  refine zq 2 (zn (aA (aH [2,3] [(St a.bytes),(I6 0)] (fun W' hM => ?_))))
  simp only [Bool.not_eq_true',Bool.not_eq_false'] at h0
  refine ⟨?_,hM.below⟩
  unfold As.outB As.outZ
  simp only [cG,h0,bs,bQ,reduceIte]
theorem aGH (eA : Addr) (s : List UInt8) (e : Er) (w : World) : CP 359 #[.agg #[.string (B s), e.V eA]] w (Ret (e.V eA) w) := by
 refine dK 5 Tryz.func359 ?_
 refine zs (zr (cJ (fun b0 => (zq 1 (zn (zB [0,1,0] [(b0,1)] (zn (aA (jJ 2)))))))))
theorem aLg (eA : Addr) (e : Er) (w : World) : CP 221 #[e.V eA, .iface 338 (.pointer (some eA)), .bool true] w (Ret (.bool true) w) := by
 refine dK 54 Tryz.func221 ?_
 refine zQ 1 (zn (aB (gX (α := Er) (fun x => [0,1,2,6].zip [(Er.V eA x),(.iface 338 (.pointer (some eA))),(.bool true),(.bool false)]) (fun x => View.no) (fun x => []) (fun x => True) (fun x => x.deep) e ?_ ?_)))
 · trivial
 intro x hx
 cases x with
 | leaf =>
  refine aB (zs (zQ 4 (cH (.bool true) (aMf _ _ _ _ rfl 338 431 eA kR kR Tryz.underlying208 Tryz.underlying338 kR kR) ?_)))
  refine zq 1 (zn (dF (zQ 1 (zn (aA (jJ 6))))))
 | wrap s2 e2 =>
  refine aB (zs (zQ 4 (cH (.bool false) (aMe _ _ _ _ rfl 281 338 (.agg #[(St s2),(Er.V eA e2)]) (.pointer (some eA)) kR kR Tryz.underlying208 (by decide)) ?_)))
  refine zq 1 (zn (dE (zk (zs (zQ 1 (cH (.tuple #[.nilIface,(.bool false)]) (aMc _ _ _ rfl 281 (.agg #[(St s2),(Er.V eA e2)]) kR Tryz.underlying302 kR kR) ?_))))))
  refine zq 5 (zn (zQ 6 (zn (dE (zk (zQ 1 (zn (aB (zs (zr (cH (.tuple #[(.iface 281 (.agg #[(St s2),(Er.V eA e2)])),(.bool true)]) (aMb _ _ _ rfl 281 (.agg #[(St s2),(Er.V eA e2)]) kR Tryz.underlying304 kR) ?_)))))))))))
  refine zq 2 (zn (dF (zQ 1 (zn (zQ 1 (dL (fun W hM => aGH eA s2 e2 W) (zq 1 (zn (zQ 1 (cH (.bool false) (qU .eql false _ _ _ _ rfl (Or.inl ⟨rfl,rfl⟩) kR eA e2 kR kR) ?_))))))))))
  refine zn (dE (zk ?_))
  refine nx e2 ?_ ?_
  · trivial
  · show e2.deep < e2.deep + 1; exact Nat.lt_succ_self _
theorem aJh (eA : Addr) (e : Er) (w : World) : CP 190 #[e.V eA, .iface 338 (.pointer (some eA))] w (Ret (.bool true) w) := by
 refine dK 22 Tryz.func190 ?_
 refine zQ 1 (zn (zs (zQ 1 (cH (.bool false) (qU .eql false _ _ _ _ rfl (Or.inl ⟨rfl,rfl⟩) kR eA e kR kR) ?_))))
 refine zq 2 (cH (.bool false) (aIt .eql false _ _ _ _ rfl (Or.inl ⟨rfl,rfl⟩) kR 338 (.pointer (some eA)) kR kR) ?_)
 refine zq 1 (zn (dE (zk (zQ 4 (zn (zQ 3 (dL (fun W hM => aLg eA e W) (zq 1 (zn (aA (jJ 4)))))))))))
theorem aJf (eA : Addr) (w : World) : CP 190 #[.nilIface, .iface 338 (.pointer (some eA))] w (Ret (.bool false) w) := by
 refine dK 22 Tryz.func190 ?_
 refine zQ 1 (zn (zs (zQ 1 (cH (.bool true) (jV .eql true _ _ _ rfl (Or.inl ⟨rfl,rfl⟩) kR kR) ?_))))
 refine zq 4 (zn (dF (zQ 2 (cH (.bool false) (aKy _ _ _ _ rfl 338 (.pointer (some eA)) kR kR Tryz.underlying208) ?_))))
 refine zq 1 (zn (aA (jJ 4)))
theorem aJg (eA : Addr) (e : Er) (w : World) {U : View} (hU : See U w) (hE : EF U eA) : CP 140 #[e.V eA] w (Ret (.bool true) w) := by
 refine eG 6 Tryz.func140 hU ?_
 refine zQ 1 (zn (zQ 1 (zV 0 (0) (.iface 338 (.pointer (some eA))) hE 208 (.global 0) _ Tryz.underlying208 rfl ?_)))
 refine dL (fun W hM => aJh eA e W) (zq 1 (zn (aA (jJ 2))))
theorem aHm (eA : Addr) (w : World) {U : View} (hU : See U w) (hE : EF U eA) : CP 140 #[.nilIface] w (Ret (.bool false) w) := by
 refine eG 6 Tryz.func140 hU ?_
 refine zQ 1 (zn (zQ 1 (zV 0 (0) (.iface 338 (.pointer (some eA))) hE 208 (.global 0) _ Tryz.underlying208 rfl ?_)))
 refine dL (fun W hM => aJf eA W) (zq 1 (zn (aA (jJ 2))))
theorem pI (eA : Addr) (l : List UInt8) (w : World) {U : View} (hU : See U w) (hE : EF U eA) : CP 184 #[.string (B l)] w (Ret ((Er.wrap l .leaf).V eA) w) := by
 refine eG 7 Tryz.func184 hU ?_
 refine zQ 1 (zn (zQ 1 (zV 0 (0) (.iface 338 (.pointer (some eA))) hE 208 (.global 0) _ Tryz.underlying208 rfl ?_)))
 refine zq 3 (zn (aA (jJ 2)))
end Go.Proofs.YtcdjakemdlinhaaGreatDoor.Sx
