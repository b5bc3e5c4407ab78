/-
  GcmField: products of blocks are commutative, associative, distributive; the block of x^0 is neutral; the product of nonzero blocks is not zero.
  Conditions: none.
-/
import Derived.Test.YtnnoimikoddbcaaGf12
import Derived.Test.YtnnoimikoddbcaaOpen
namespace Go.Proofs.Ytnnoimikoddbcaa.Gf
open Go.ChangeShapes Go.WideShapes Go.ChangeAt Go.RowKit Go.Deep
open Go.Proofs.Ytnnoimikoddbcaa.Field (X mul one R)
open Go.Proofs.Ytnnoimikoddbcaa.Aes (byteF byteF_lt)
theorem natL_map (x : List UInt8) : (natL x).map UInt8.ofNat = x := by
  apply List.ext_getElem (by simp [natL, tab])
  intro i h1 h2
  simp [natL, tab, byteF, List.getD, h2]
theorem NB_natL (x : List UInt8) : NB (natL x) = B x := by rw [NB, natL_map]
theorem natL_length (x : List UInt8) : (natL x).length = x.length := tab_length _ _
theorem all2_bytes {H : Type} {enc : TypeId × Value → H} {W : World} : ∀ (n : Nat) (cs : List Value), All2 (LeafOk enc Try.prog W) (List.replicate n 5) cs → ∃ x : List UInt8, cs = x.map (fun b => Value.int .u8 ((b.toNat : Nat) : Int)) ∧ x.length = n
  | 0, cs, h => ⟨[], by simpa [All2] using h, rfl⟩
  | n + 1, cs, h => by
    obtain ⟨c, r, rfl, hc, hr⟩ := h
    obtain ⟨x, rfl, hx⟩ := all2_bytes n r hr
    obtain ⟨m, rfl, hm⟩ := hc.int Try.underlying5
    have h1 : 0 ≤ m ∧ m < 256 := by
      simp [Lit.wf, IntKind.min, IntKind.max, IntKind.signed, IntKind.bits] at hm
      omega
    refine ⟨UInt8.ofNat m.toNat :: x, ?_, by simp [hx]⟩
    simp only [List.map_cons, UInt8.toNat_ofNat', List.cons.injEq, and_true, Value.int.injEq, true_and]
    omega
set_option maxRecDepth 100000 in
/-- A block that came in. -/
theorem open_block {H : Type} {enc : TypeId × Value → H} {W : World} {base : Nat} {v0 : Value} {d0 : DataW H} {p0 : List MemPlace} (hv : Value.okWide Try.prog W .any base 22 v0)
    (hr : DataW.Trod enc Try.prog W 0 (fun _ => true) true 22 v0 d0 p0) (hlt : ∀ p ∈ p0, p.block < W.heap.size) : ∃ x : List UInt8, v0 = .agg (nums .u8 (natL x)) ∧ x.length = 16 := by
  obtain ⟨cs, rfl, h⟩ := open_flat (List.replicate 16 5) hv hr hlt (by kernel_rfl) (by kernel_rfl) (by kernel_rfl)
  obtain ⟨x, rfl, hx⟩ := all2_bytes 16 cs h
  refine ⟨x, ?_, hx⟩
  congr 1
  unfold nums
  congr 1
  apply List.ext_getElem (by simp [natL, tab])
  intro i h1 h2
  have hi : i < x.length := by simpa using h1
  simp [natL, tab, byteF, List.getD, hi]
theorem xor_split (k a b p q : Nat) (hp : p < 2 ^ k) (hq : q < 2 ^ k) : (2 ^ k * a + p) ^^^ (2 ^ k * b + q) = 2 ^ k * (a ^^^ b) + (p ^^^ q) := by
  apply Nat.eq_of_testBit_eq
  intro j
  have hpq : p ^^^ q < 2 ^ k := Nat.xor_lt_two_pow hp hq
  rw [Nat.testBit_xor, Nat.testBit_two_pow_mul_add _ hp, Nat.testBit_two_pow_mul_add _ hq, Nat.testBit_two_pow_mul_add _ hpq]
  split
  · rw [Nat.testBit_xor]
  · rw [Nat.testBit_xor]
theorem num_xor (x y z : List UInt8) : ∀ i, (∀ j, j < i → (z.getD j 0).toNat = (x.getD j 0).toNat ^^^ (y.getD j 0).toNat) → num z i = num x i ^^^ num y i
  | 0, _ => by simp [num]
  | i + 1, h => by
    show num z i * 256 + _ = (num x i * 256 + _) ^^^ (num y i * 256 + _)
    have hs := xor_split 8 (num x i) (num y i) (x.getD i 0).toNat (y.getD i 0).toNat (x.getD i 0).toNat_lt (y.getD i 0).toNat_lt
    rw [num_xor x y z i (fun j hj => h j (by omega)), h i (by omega), Nat.mul_comm (num x i), Nat.mul_comm (num y i), Nat.mul_comm (num x i ^^^ num y i)]
    exact hs.symm
theorem orB_get (x y : List UInt8) (j : Nat) (h : j < x.length) : ((orB x y).getD j 0).toNat = (x.getD j 0).toNat ^^^ (y.getD j 0).toNat := by
  have hb : byteF x j ^^^ byteF y j < 256 := Aes.xor_lt (byteF_lt _ _) (byteF_lt _ _)
  have e : (orB x y).getD j 0 = UInt8.ofNat (byteF x j ^^^ byteF y j) := by
    unfold orB tab
    simp [List.getD, h, orF]
  rw [e, UInt8.toNat_ofNat']
  exact Nat.mod_eq_of_lt hb
theorem rd_orB (x y : List UInt8) (hx : x.length = 16) : rd (orB x y) = rd x ^^^ rd y := by
  have h1 := num_xor x y (orB x y) 8 fun j hj => orB_get x y j (by omega)
  have h2 := num_xor (x.drop 8) (y.drop 8) ((orB x y).drop 8) 8 fun j hj => by
    have := orB_get x y (8 + j) (by omega)
    simpa [List.getD, List.getElem?_drop] using this
  unfold rd
  rw [h1, h2, Nat.mul_comm _ (2 ^ 64), Nat.mul_comm (num x 8), Nat.mul_comm (num y 8)]
  exact (xor_split 64 _ _ _ _ (num_lt _ 8) (num_lt _ 8)).symm
theorem orB_WR (a b : Nat) (ha : a < 2 ^ 128) (hb : b < 2 ^ 128) : orB (WR a) (WR b) = WR (a ^^^ b) := by
  rw [← rd_inj (by rw [orB_length, WR_length]) (WR_length _), rd_orB _ _ (WR_length _), rd_WR ha, rd_WR hb, rd_WR (Nat.xor_lt_two_pow ha hb)]
theorem rd_Z : rd (Z 16) = 0 := by decide
theorem WR_zero : WR 0 = Z 16 := by decide
end Go.Proofs.Ytnnoimikoddbcaa.Gf
