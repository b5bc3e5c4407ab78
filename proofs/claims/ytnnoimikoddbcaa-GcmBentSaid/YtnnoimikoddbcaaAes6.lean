/-
  AES: the words of a key: the law in plain lists.
  Conditions: bytes.
-/
import Derived.Test.YtnnoimikoddbcaaAes5
import Derived.Laws.AppendOwn
import Derived.Laws.OwnMore
namespace Go.Proofs.Ytnnoimikoddbcaa.Aes
open Go.ChangeShapes Go.WideShapes Go.ChangeAt Go.RowKit Go.Deep
def keyW (key : List UInt8) (i : Nat) : List Nat := [byteF key (i * 4), byteF key (i * 4 + 1), byteF key (i * 4 + 2), byteF key (i * 4 + 3)]
def subW (T x : List Nat) : List Nat := tab (thrF T x) 4
def rotW (x : List Nat) : List Nat := [x.getD 1 0, x.getD 2 0, x.getD 3 0, x.getD 0 0]
def pow2 : Nat → Nat
  | 0 => 1
  | k + 1 => mulB (pow2 k) 2
theorem pow2_lt : ∀ k, pow2 k < 256
  | 0 => by unfold pow2; omega
  | k + 1 => mulB_lt 2 (pow2_lt k)
/-- The word before, turned. -/
def tempW (T : List Nat) (n i : Nat) (prev : List Nat) : List Nat :=
  if i % n = 0 then (subW T (rotW prev)).set 0 ((subW T (rotW prev)).getD 0 0 ^^^ pow2 ((i - 1) / n))
  else if n = 8 ∧ i % n = 4 then subW T prev else prev
def nextW (T : List Nat) (key : List UInt8) (n i : Nat) (l : List Nat) : List Nat :=
  if i < n then keyW key i else tab (addF (tempW T n i (rowOf l (i - 1))) (rowOf l (i - n))) 4
def wordsL (T : List Nat) (key : List UInt8) (n : Nat) : Nat → List Nat
  | 0 => []
  | i + 1 => wordsL T key n i ++ nextW T key n i (wordsL T key n i)
theorem nextW_length (T : List Nat) (key : List UInt8) (n i : Nat) (l : List Nat) : (nextW T key n i l).length = 4 := by
  unfold nextW
  split
  · rfl
  · exact tab_length _ _
theorem wordsL_length (T : List Nat) (key : List UInt8) (n : Nat) : ∀ i, (wordsL T key n i).length = i * 4
  | 0 => rfl
  | i + 1 => by rw [wordsL, List.length_append, wordsL_length T key n i, nextW_length]; omega
theorem bytes_nil : Bytes [] := fun i => by simp
theorem bytes_cons {a : Nat} {l : List Nat} (h : a < 256) (hl : Bytes l) : Bytes (a :: l) := fun i => by
  cases i with
  | zero => exact h
  | succ i => exact hl i
theorem bytes_append {a b : List Nat} (ha : Bytes a) (hb : Bytes b) : Bytes (a ++ b) := fun i => by
  rw [List.getD_eq_getElem?_getD, List.getElem?_append]
  split
  · exact ha i
  · exact hb _
theorem bytes_four {a b c d : Nat} (ha : a < 256) (hb : b < 256) (hc : c < 256) (hd : d < 256) : Bytes [a, b, c, d] := bytes_cons ha (bytes_cons hb (bytes_cons hc (bytes_cons hd bytes_nil)))
theorem bytes_set {l : List Nat} {i v : Nat} (hl : Bytes l) (hv : v < 256) : Bytes (l.set i v) := fun j => by
  by_cases h : i < l.length
  · rw [getD_set _ _ _ _ h]
    split
    · exact hv
    · exact hl j
  · rw [List.set_eq_of_length_le (by omega)]
    exact hl j
theorem rowOf_bytes {l : List Nat} (h : Bytes l) (i : Nat) : Bytes (rowOf l i) := bytes_four (h _) (h _) (h _) (h _)
theorem subW_bytes {T : List Nat} (hT : Bytes T) (x : List Nat) : Bytes (subW T x) := tab_bytes fun _ _ => hT _
theorem tempW_bytes {T : List Nat} (hT : Bytes T) (n i : Nat) {p : List Nat} (hp : Bytes p) : Bytes (tempW T n i p) := by
  unfold tempW
  split
  · exact bytes_set (subW_bytes hT _) (xor_lt (subW_bytes hT _ _) (pow2_lt _))
  · split
    · exact subW_bytes hT _
    · exact hp
theorem nextW_bytes {T : List Nat} (hT : Bytes T) (key : List UInt8) (n i : Nat) {l : List Nat} (hl : Bytes l) : Bytes (nextW T key n i l) := by
  unfold nextW
  split
  · exact bytes_four (byteF_lt _ _) (byteF_lt _ _) (byteF_lt _ _) (byteF_lt _ _)
  · exact tab_bytes fun _ _ => xor_lt (tempW_bytes hT _ _ (rowOf_bytes hl _) _) (rowOf_bytes hl _ _)
theorem wordsL_bytes {T : List Nat} (hT : Bytes T) (key : List UInt8) (n : Nat) : ∀ i, Bytes (wordsL T key n i)
  | 0 => bytes_nil
  | i + 1 => bytes_append (wordsL_bytes hT key n i) (nextW_bytes hT key n i (wordsL_bytes hT key n i))
theorem pow_step {n i : Nat} (hn : 0 < n) (hi : n ≤ i) (h : i % n = 0) : pow2 ((i + 1 - 1) / n) = mulB (pow2 ((i - 1) / n)) 2 := by
  have e : (i + 1 - 1) / n = (i - 1) / n + 1 := by
    obtain ⟨q, rfl⟩ := Nat.dvd_of_mod_eq_zero h
    have hq : 0 < q := by
      rcases Nat.eq_zero_or_pos q with rfl | h
      · omega
      · exact h
    obtain ⟨r, rfl⟩ : ∃ r, q = r + 1 := ⟨q - 1, by omega⟩
    rw [Nat.add_sub_cancel, Nat.mul_div_cancel_left _ hn]
    have : n * (r + 1) - 1 = n * r + (n - 1) := by rw [Nat.mul_add]; omega
    rw [this, Nat.mul_add_div hn, Nat.div_eq_of_lt (by omega : n - 1 < n), Nat.add_zero]
  rw [e]; rfl
theorem pow_stay {n i : Nat} (hn : 0 < n) (h : ¬ i % n = 0) : (i + 1 - 1) / n = (i - 1) / n := by
  rw [Nat.add_sub_cancel]
  have h1 := Nat.div_add_mod i n
  have h2 := Nat.mod_lt i hn
  have : i - 1 = n * (i / n) + (i % n - 1) := by omega
  have e : (n * (i / n) + (i % n - 1)) / n = i / n := by rw [Nat.mul_add_div hn, Nat.div_eq_of_lt (by omega : i % n - 1 < n), Nat.add_zero]
  rw [this, e]
theorem pow_short {n i : Nat} (h : i < n) : (i + 1 - 1) / n = 0 ∧ (i - 1) / n = 0 := ⟨Nat.div_eq_of_lt (by omega), Nat.div_eq_of_lt (by omega)⟩
end Go.Proofs.Ytnnoimikoddbcaa.Aes
