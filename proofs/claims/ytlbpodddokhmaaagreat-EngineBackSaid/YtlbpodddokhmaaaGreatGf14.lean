/-
  The stream of a text, byte by byte.
  Conditions: none.
-/
import Derived.Test.YtlbpodddokhmaaaGreatGf11
namespace Go.Proofs.YtlbpodddokhmaaaGreat.Gf
open Go.ChangeShapes Go.WideShapes Go.ChangeAt Go.RowKit Go.Deep
open Go.Proofs.YtlbpodddokhmaaaGreat.Aes (byteF byteF_lt)
/-- The stream's own byte. -/
def ksB (key first : List UInt8) (i : Nat) : Nat := byteF (E key (ctr first (i / 16 + 1))) (i % 16)
theorem ksB_lt (key first : List UInt8) (i : Nat) : ksB key first i < 256 := byteF_lt _ _
theorem byteF_append_left (a b : List UInt8) (i : Nat) (h : i < a.length) : byteF (a ++ b) i = byteF a i := by
  simp [byteF, List.getD, List.getElem?_append, h]
theorem byteF_append_right (a b : List UInt8) (i : Nat) (h : a.length ≤ i) : byteF (a ++ b) i = byteF b (i - a.length) := by
  simp [byteF, List.getD, List.getElem?_append, show ¬ i < a.length by omega]
theorem byteF_blk (l : List UInt8) (k j : Nat) (h : j < 16) : byteF (blk l k) j = byteF l (16 * k + j) := by
  simp [byteF, blk, List.getD, h]
theorem orB_get (x y : List UInt8) (j : Nat) (h : j < x.length) : ((orB x y).getD j 0).toNat = (x.getD j 0).toNat ^^^ (y.getD j 0).toNat := by
  have hb : byteF x j ^^^ byteF y j < 256 := Aes.xor_lt (byteF_lt _ _) (byteF_lt _ _)
  have e : (orB x y).getD j 0 = UInt8.ofNat (byteF x j ^^^ byteF y j) := by
    unfold orB tab
    simp [List.getD, h, orF]
  rw [e, UInt8.toNat_ofNat']
  exact Nat.mod_eq_of_lt hb
theorem orB_byte (x y : List UInt8) (j : Nat) (h : j < x.length) : byteF (orB x y) j = byteF x j ^^^ byteF y j := orB_get x y j h
theorem strN_byte (key first text : List UInt8) : ∀ k, 16 * k ≤ text.length + 15 → ∀ i, i < 16 * k → i < text.length → byteF (strN key first text k) i = byteF text i ^^^ ksB key first i
  | 0, _, i, h, _ => by omega
  | k + 1, hk, i, h, hi => by
    have hl := strN_length key first text k (by omega)
    rw [strN]
    by_cases hlt : i < 16 * k
    · rw [byteF_append_left _ _ _ (by omega)]
      exact strN_byte key first text k (by omega) i hlt hi
    · have hm : min (16 * k) text.length = 16 * k := by omega
      rw [byteF_append_right _ _ _ (by omega), hl, hm, orB_byte _ _ _ (by rw [blk_length]; omega), byteF_blk _ _ _ (by omega), show 16 * k + (i - 16 * k) = i by omega]
      unfold ksB
      rw [show i / 16 = k by omega, show i % 16 = i - 16 * k by omega]
theorem streamB_byte (key first text : List UInt8) (i : Nat) (h : i < text.length) : byteF (streamB key first text) i = byteF text i ^^^ ksB key first i :=
  strN_byte key first text _ (by omega) i (by omega) h
end Go.Proofs.YtlbpodddokhmaaaGreat.Gf
