/-
  What gcm.Open answers, and that a stream undoes itself.
  Conditions: none.
-/
import Derived.Test.YtlbpodddokhmaaaGreatGf14
namespace Go.Proofs.YtlbpodddokhmaaaGreat.Gf
open Go.ChangeShapes Go.WideShapes Go.ChangeAt Go.RowKit Go.Deep
open Go.Proofs.YtlbpodddokhmaaaGreat.Aes (byteF byteF_lt)
/-- What Open answers: the text, and the error. -/
def openS (k n a t tag : List UInt8) : List UInt8 := if sealOk k n ∧ tagB k (firstB k n) a t = tag then streamB k (firstB k n) t else []
def openE (k n a t tag : List UInt8) : Nat := if sealOk k n then if tagB k (firstB k n) a t = tag then 0 else 7 else 1
theorem byteF_ext {x y : List UInt8} (hl : x.length = y.length) (h : ∀ j, j < x.length → byteF x j = byteF y j) : x = y := by
  apply List.ext_getElem hl
  intro i h1 h2
  have := h i h1
  simp only [byteF, List.getD, List.getElem?_eq_getElem h1, List.getElem?_eq_getElem h2, Option.getD_some] at this
  exact UInt8.toNat_inj.1 this
theorem stream_back (k f t : List UInt8) : streamB k f (streamB k f t) = t := by
  have hl := streamB_length k f t
  refine byteF_ext (by rw [streamB_length, hl]) fun j hj => ?_
  rw [streamB_length, hl] at hj
  rw [streamB_byte _ _ _ _ (by omega), streamB_byte _ _ _ _ hj, Nat.xor_assoc, Nat.xor_self, Nat.xor_zero]
end Go.Proofs.YtlbpodddokhmaaaGreat.Gf
