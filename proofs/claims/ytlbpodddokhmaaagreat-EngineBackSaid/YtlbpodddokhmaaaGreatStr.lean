/-
  Strings as lists of bytes: the walk's rules for strings that are written 'B l'.
  Conditions: none.
-/
import Derived.Test.YtlbpodddokhmaaaGreatFrame
import Derived.Outline
import Derived.WalkLawsBesides
import Derived.Lib.Hide
import Derived.WalkSpells
import Derived.Laws.RangeString
import Derived.Laws.Concat
import Derived.Lib.Strings
import Derived.Lib.ConvBytes
namespace Go.Proofs.YtlbpodddokhmaaaGreat
open Go.ChangeShapes Go.WideShapes Go.ChangeAt Go.RowKit

/-- The string of a list of bytes. -/
def B (l : List UInt8) : ByteArray := ⟨l.toArray⟩

theorem B_of (s : ByteArray) : ∃ l, s = B l := ⟨s.data.toList, (Lib.mk_data s).symm⟩
@[go_sem] theorem B_size (l : List UInt8) : (B l).size = l.length := by simp [B, ByteArray.size]
@[go_sem] theorem B_toList (l : List UInt8) : (B l).toList = l := by simp [B]
@[go_sem] theorem B_data (l : List UInt8) : (B l).data.toList = l := by simp [B]
@[go_sem] theorem B_extract (l : List UInt8) (a b : Nat) : (B l).extract a b = B ((l.drop a).take (b - a)) := by
  rw [Lib.extract_eq]; simp [B]
@[go_sem] theorem B_append (a b : List UInt8) : B a ++ B b = B (a ++ b) := ByteArray.mk_append_mk a b
@[go_sem] theorem B_append_mk (a : List UInt8) (b : Array UInt8) : B a ++ ByteArray.mk b = B (a ++ b.toList) := by
  have := ByteArray.mk_append_mk a b.toList
  simpa [B] using this
@[go_sem] theorem B_mk_append (a : Array UInt8) (b : List UInt8) : ByteArray.mk a ++ B b = B (a.toList ++ b) := by
  have := ByteArray.mk_append_mk a.toList b
  simpa [B] using this
@[go_sem] theorem take_all_drop (l : List UInt8) (a : Nat) : (l.drop a).take (l.length - a) = l.drop a := List.take_of_length_le (by simp)
theorem B_get_lt {l : List UInt8} {i : Nat} (h : i < (B l).size) : i < l.length := by rwa [B_size] at h
@[go_sem] theorem B_get (l : List UInt8) (i : Nat) (h : i < (B l).size) : (B l)[i]'h = l[i]'(B_get_lt h) := by
  simp only [B]
  rfl
theorem ret_bool {a b : Bool} (h : a = true ↔ b = true) : Ending.returned (.bool a) = .returned (.bool b) := by rw [Bool.eq_iff_iff.2 h]
theorem ret_int {k : IntKind} {a b : Int} (h : a = b) : Ending.returned (.int k a) = .returned (.int k b) := by rw [h]
theorem ret_str {a b : List UInt8} (h : a = b) : Ending.returned (.string (B a)) = .returned (.string (B b)) := by rw [h]
/-- 'p' is a prefix of 'l'. -/
def pre (p l : List UInt8) : Bool := p.isPrefixOf l
/-- What is left of 'l' behind the prefix 'p', or 'l'. -/
def cutp (p l : List UInt8) : List UInt8 := if pre p l then l.drop p.length else l
theorem cutp_true {p l : List UInt8} (h : pre p l = true) : cutp p l = l.drop p.length := by simp [cutp, h]
theorem cutp_false {p l : List UInt8} (h : pre p l = false) : cutp p l = l := by simp [cutp, h]
theorem pre_of_take (l p : List UInt8) : (decide (p.length ≤ l.length) && (l.take p.length == p)) = pre p l := Lib.hasPrefix_of_take l p
theorem pre_iff {p l : List UInt8} : pre p l = true ↔ ∃ r, l = p ++ r := by
  unfold pre
  rw [List.isPrefixOf_iff_prefix]
  exact ⟨fun ⟨r, h⟩ => ⟨r, h.symm⟩, fun ⟨r, h⟩ => ⟨r, h.symm⟩⟩
theorem pre_length {p l : List UInt8} (h : pre p l = true) : p.length ≤ l.length := by obtain ⟨r, rfl⟩ := pre_iff.1 h; simp
theorem B_inj {a b : List UInt8} : B a = B b ↔ a = b := ⟨fun h => by rw [← B_toList a, h, B_toList], fun h => by rw [h]⟩
theorem B_nil : B [] = ⟨#[]⟩ := rfl

/-- '[]byte(s)': a new row that holds the string's bytes. -/
theorem bytes_conv {P : Program} (w : World) (src dst e : TypeId) (l : List UInt8) (hs : P.underlying src = some .string) (hd : P.underlying dst = some (.slice e)) (he : P.underlying e = some (.int .u8)) :
    ∃ cap w', (convert src dst (.string (B l))).run P w = .ok (.slice (some ⟨w.heap.size, 0, none⟩) l.length cap) w' ∧ l.length ≤ cap ∧ Below w.heap.size w w' ∧ w'.heap.size = w.heap.size + 1 ∧
      (∀ i (h : i < l.length), w'.cell? ⟨w.heap.size, i, none⟩ = some (.int .u8 l[i].toNat)) ∧ (∀ i, i < l.length → w'.frozen? ⟨w.heap.size, i, none⟩ = false) := by
  refine ⟨grownCap w (B l).size 0 e, Lib.bytesWorld w e (B l), ?_, ?_, ⟨rfl, rfl, rfl, ?_, fun k hk => Lib.bytesWorld_at_old w e (B l) k hk⟩, Lib.bytesWorld_size w e (B l), ?_, ?_⟩
  · rw [Lib.run_convert_string_bytes w src dst e (B l) hs hd he, B_size]
  · rw [B_size]; exact (grownCap_ge w l.length 0 e)
  · rw [Lib.bytesWorld_size]; omega
  · intro i h
    rw [Lib.bytesWorld_cell w e (B l) i (by rw [B_size]; exact h), B_data]
    simp [List.getD, h]
  · intro i h
    simp [World.frozen?, Lib.bytesWorld_at_new, Lib.bytesCells, B_size]
    omega

/-- The cells and the marks that were there before a call that has only made new blocks. -/
theorem bcell {W w1 : World} (hb : Below W.heap.size W w1) : (∀ b o, b < W.heap.size → w1.cell? ⟨b, o, none⟩ = W.cell? ⟨b, o, none⟩) ∧ (∀ b o, b < W.heap.size → w1.frozen? ⟨b, o, none⟩ = W.frozen? ⟨b, o, none⟩) ∧ W.heap.size ≤ w1.heap.size :=
  ⟨fun b o h => hb.cell (p := ⟨b, o, none⟩) h, fun b o h => hb.frozen (p := ⟨b, o, none⟩) h, hb.size⟩
/-- One block that was there before. -/
theorem bat {B0 : Nat} {W w1 : World} (hb : Below B0 W w1) (b : Nat) (h : b < B0) : (∀ o, w1.cell? ⟨b, o, none⟩ = W.cell? ⟨b, o, none⟩) ∧ (∀ o, w1.frozen? ⟨b, o, none⟩ = W.frozen? ⟨b, o, none⟩) :=
  ⟨fun o => hb.cell (p := ⟨b, o, none⟩) h, fun o => hb.frozen (p := ⟨b, o, none⟩) h⟩
theorem bz {B0 : Nat} {W w1 : World} (hb : Below B0 W w1) (b : Nat) (h : b < W.heap.size) : b < w1.heap.size := Nat.lt_of_lt_of_le h hb.size
theorem bs {B0 b : Nat} {W w1 : World} (hb : Below B0 W w1) (h : b ≤ W.heap.size) : b ≤ w1.heap.size := Nat.le_trans h hb.size
end Go.Proofs.YtlbpodddokhmaaaGreat
