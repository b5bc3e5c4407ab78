/-
  The walk of gcm.or, gcm.next, and of the law's own 'or'.
  Conditions: named at each.
-/
import Derived.Test.YtlbpodddokhmaaaGreatGfM
import Derived.Test.YtlbpodddokhmaaaGreatHeld
import Derived.Test.YtlbpodddokhmaaaGreatAes12
import Derived.Laws.BitsAllLaws
namespace Go.Proofs.YtlbpodddokhmaaaGreat.Gf
open Go.ChangeShapes Go.WideShapes Go.ChangeAt Go.RowKit Go.Deep
open Go.Proofs.YtlbpodddokhmaaaGreat.Aes (byteF byteF_lt xor_lt)
/-- Bytes in a block, from its head. -/
def RowAt (w : World) (b : Nat) (l : List Nat) : Prop := b < w.heap.size ∧ ∀ i, i < l.length → w.cell? ⟨b, i, none⟩ = some (.int .u8 ((l.getD i 0 : Nat) : Int)) ∧ w.frozen? ⟨b, i, none⟩ = false
theorem RowAt.set {w : World} {b : Nat} {l : List Nat} (h : RowAt w b l) (i v : Nat) (hi : i < l.length) : RowAt (w.setCell ⟨b, i, none⟩ (.int .u8 ((v : Nat) : Int))) b (l.set i v) := by
  refine ⟨?_, fun j hj => ?_⟩
  · have := h.1
    simpa [World.setCell] using this
  · rw [List.length_set] at hj
    rw [getD_set _ _ _ _ hi]
    constructor
    · by_cases e : j = i
      · subst e
        rw [if_pos rfl]
        exact World.cell?_setCell_same _ _ _ (h.2 j hj).1
      · rw [if_neg e]
        have hne : (⟨b, i, none⟩ : Addr) ≠ ⟨b, j, none⟩ := fun h2 => e (by injection h2 with _ h3 _; exact h3.symm)
        rw [show (w.setCell ⟨b, i, none⟩ (.int .u8 ((v : Nat) : Int))).cell? ⟨b, j, none⟩ = w.cell? ⟨b, j, none⟩ from World.cell?_setCell_other (h := hne) ..]
        exact (h.2 j hj).1
    · rw [World.frozen?_setCell]
      exact (h.2 j hj).2
def natL (x : List UInt8) : List Nat := tab (byteF x) x.length
theorem row_conv {P : Program} (w : World) (src dst e : TypeId) (x : List UInt8) (hs : P.underlying src = some .string) (hd : P.underlying dst = some (.slice e)) (he : P.underlying e = some (.int .u8)) :
    ∃ cap w', (convert src dst (.string (B x))).run P w = .ok (.slice (some ⟨w.heap.size, 0, none⟩) x.length cap) w' ∧ x.length ≤ cap ∧ Below w.heap.size w w' ∧ RowAt w' w.heap.size (natL x) := by
  obtain ⟨cap, w', h1, h2, h3, h4, h5, h6⟩ := bytes_conv (P := P) w src dst e x hs hd he
  refine ⟨cap, w', h1, h2, h3, by omega, fun i hi => ?_⟩
  rw [natL, tab_length] at hi
  rw [natL, tab_get _ _ _ hi]
  refine ⟨?_, h6 i hi⟩
  rw [h5 i hi]
  simp [byteF, List.getD, hi]
def orF (x y : List UInt8) (n : Nat) : Nat := byteF x n ^^^ byteF y n
/-- Bytes, exclusively or'd. -/
def orB (x y : List UInt8) : List UInt8 := (tab (orF x y) x.length).map UInt8.ofNat
set_option maxRecDepth 100000 in
theorem or_any (x y : List UInt8) (w : World) (h : x.length ≤ y.length) (hxl : x.length ≤ 1000000) : Calls Tryz.prog 95 #[.string (B x), .string (B y)] w fun e w' => e = .returned (.string (B (orB x y))) ∧ Below w.heap.size w w' := by
  obtain ⟨cap, w1, hconv, hcap, hb1, hrow⟩ := row_conv (P := Tryz.prog) w 9 73 5 x Tryz.underlying9 Tryz.underlying73 Tryz.underlying5
  have HB1 := Lib.hid hb1
  have HROW := Lib.hid hrow
  clear hb1 hrow hcap
  go_enter Tryz.func95, Tryz.ntmps95
  go_wp2
  go_loopw [11] (fun s11 wr => ∃ (i : Nat) (l : List Nat), i ≤ x.length ∧ s11 = .int .i64 i ∧ l = fillN (orF x y) (natL x) i ∧ RowAt wr w.heap.size l ∧ Below w.heap.size w wr) (fun s _ => x.length - (intOf s).toNat)
  case atStart => exact ⟨0, natL x, by omega, rfl, rfl, HROW.out, HB1.out⟩
  case round =>
    obtain ⟨i, l, hi, rfl, hl, hrow, hbel⟩ := hrel
    have hll : l.length = x.length := by rw [hl, fillN_length, natL, tab_length]
    have HL := Lib.hid hl
    have HR := Lib.hid hrow
    have HBL := Lib.hid hbel
    clear hl hrow hbel
    by_cases hend : i = x.length
    · have hlt : ¬ (i : Int) < (x.length : Int) := by omega
      have hst := string_of (P := Tryz.prog) wr 73 9 5 ⟨w.heap.size, 0, none⟩ x.length cap l Tryz.underlying73 Tryz.underlying5 Tryz.underlying9 hll (fun j hj => by
        have e1 : (⟨w.heap.size, 0, none⟩ : Addr).add j = ⟨w.heap.size, j, none⟩ := by simp [Addr.add]; omega
        rw [e1]; exact (HR.out.2 j (by omega)).1)
      have hres : NB l = B (orB x y) := by
        rw [HL.out, hend, fillN_full _ (show (natL x).length = x.length from tab_length _ _)]; rfl
      rw [hres] at hst
      clear hend hres
      have HE : ∃ r, r = orB x y := ⟨_, rfl⟩
      obtain ⟨res, hres⟩ := HE
      have HRES := Lib.hid hres
      rw [← hres] at hst
      clear hres
      go_wp2
      go_ret
      exact ⟨by rw [← HRES.out]; rfl, HBL.out⟩
    · have hlt : (i : Int) < (x.length : Int) := by omega
      have hlx : i < x.length := by omega
      have hly : (i : Int) < (y.length : Int) := by omega
      have hly' : i < y.length := by omega
      have hc := (HR.out.2 i (by omega)).1
      have hf := (HR.out.2 i (by omega)).2
      have hlv : l.getD i 0 = byteF x i := by
        rw [HL.out, fillN_get _ _ _ _ (by rw [natL, tab_length]; omega), if_neg (by omega), natL, tab_get _ _ _ hlx]
      rw [hlv] at hc
      have hyv : ((y[i].toNat : Nat) : Int) = ((byteF y i : Nat) : Int) := by simp [byteF, List.getD, hly']
      have hx := u8_xor_nat _ _ (byteF_lt x i) (byteF_lt y i)
      have HX := Lib.hid (show bits .xor .u8 ((byteF x i : Nat) : Int) ((y[i].toNat : Nat) : Int) = ((orF x y i : Nat) : Int) by rw [hyv]; exact hx)
      clear hlv hyv hx
      generalize byteF x i = v at *
      have hws : w.heap.size < wr.heap.size := HR.out.1
      go_wp2
      go_region
      go_wp2
      go_round
      case rel =>
        refine ⟨i + 1, l.set i (orF x y i), by omega, by go_num, by rw [HL.out]; rfl, ?_, ?_⟩
        · rw [HX.out]
          exact HR.out.set i _ (by omega)
        · exact Below.drew (HBL.out.setCell (show w.heap.size ≤ (⟨w.heap.size, i, none⟩ : Addr).block from Nat.le_refl _) _)
      case measure => simp [intOf]; omega
end Go.Proofs.YtlbpodddokhmaaaGreat.Gf
