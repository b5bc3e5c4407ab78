/-
  The walk of gcm.next, and of the law's own 'or'.
  Conditions: named at each.
-/
import Derived.Test.YtlbpodddokhmaaaGreatGf6
namespace Go.Proofs.YtlbpodddokhmaaaGreat.Gf
open Go.ChangeShapes Go.WideShapes Go.ChangeAt Go.RowKit Go.Deep
open Go.Proofs.YtlbpodddokhmaaaGreat.Aes (byteF byteF_lt xor_lt)
/-- The counter behind one, from place 11 + k on downwards. -/
def nextGo : Nat → List Nat → List Nat
  | 0, l => l
  | k + 1, l => if (l.getD (12 + k) 0 + 1) % 256 = 0 then nextGo k (l.set (12 + k) 0) else l.set (12 + k) ((l.getD (12 + k) 0 + 1) % 256)
theorem nextGo_length : ∀ k l, (nextGo k l).length = l.length
  | 0, _ => rfl
  | k + 1, l => by
    unfold nextGo
    split
    · rw [nextGo_length k, List.length_set]
    · rw [List.length_set]
def next16 (x : List UInt8) : List UInt8 := (nextGo 4 (natL x)).map UInt8.ofNat
theorem next16_length (x : List UInt8) : (next16 x).length = x.length := by rw [next16, List.length_map, nextGo_length, natL, tab_length]
set_option maxRecDepth 100000 in
theorem next_any (x : List UInt8) (w : World) (h : x.length = 16) : Calls Tryz.prog 96 #[.string (B x)] w fun e w' => e = .returned (.string (B (next16 x))) ∧ Below w.heap.size w w' := by
  obtain ⟨cap, w1, hconv, hcap, hb1, hrow⟩ := row_conv (P := Tryz.prog) w 9 73 5 x Tryz.underlying9 Tryz.underlying73 Tryz.underlying5
  rw [h] at hconv
  have HB1 := Lib.hid hb1
  have HROW := Lib.hid hrow
  have HX := Lib.hid h
  clear hb1 hrow hcap h
  go_enter Tryz.func96, Tryz.ntmps96
  go_wp2
  go_loopw [4] (fun s4 wr => ∃ (k : Nat) (l : List Nat), k ≤ 4 ∧ s4 = .int .i64 (11 + (k : Int)) ∧ nextGo k l = nextGo 4 (natL x) ∧ l.length = 16 ∧ (∀ i, l.getD i 0 < 256) ∧ RowAt wr w.heap.size l ∧ Below w.heap.size w wr) (fun s _ => (intOf s).toNat)
  case atStart => exact ⟨4, natL x, by omega, rfl, rfl, by rw [natL, tab_length]; exact HX.out, tab_bytes (fun k _ => byteF_lt x k), HROW.out, HB1.out⟩
  case round =>
    obtain ⟨k, l, hk, rfl, hl, hll, hlb, hrow, hbel⟩ := hrel
    have HL := Lib.hid hl
    have HLB := Lib.hid hlb
    have HR := Lib.hid hrow
    have HBL := Lib.hid hbel
    clear hl hrow hbel hlb
    rcases k with _ | k
    · have hst := string_of (P := Tryz.prog) wr 73 9 5 ⟨w.heap.size, 0, none⟩ 16 cap l Tryz.underlying73 Tryz.underlying5 Tryz.underlying9 hll (fun j hj => by
        have e1 : (⟨w.heap.size, 0, none⟩ : Addr).add j = ⟨w.heap.size, j, none⟩ := by simp [Addr.add]; omega
        rw [e1]; exact (HR.out.2 j (by omega)).1)
      have HN := Lib.hid hst
      go_wp2
      go_ret
      exact ⟨by rw [next16, ← HL.out]; rfl, HBL.out⟩
    · have hlk : (k : Int) ≤ 3 := by omega
      have hkk : k ≤ 3 := by omega
      have hc := (HR.out.2 (12 + k) (by omega)).1
      have hf := (HR.out.2 (12 + k) (by omega)).2
      have hv := HLB.out (12 + k)
      have hlk1 : 11 + ((k + 1 : Nat) : Int) = 12 + (k : Int) := by omega
      rw [hlk1]
      have hgo : nextGo (k + 1) l = if (l.getD (12 + k) 0 + 1) % 256 = 0 then nextGo k (l.set (12 + k) 0) else l.set (12 + k) ((l.getD (12 + k) 0 + 1) % 256) := rfl
      have HGO := Lib.hid hgo
      have hset := HR.out.set (12 + k) ((l.getD (12 + k) 0 + 1) % 256) (by omega)
      have HSET := Lib.hid hset
      clear hgo hset
      generalize hvv : l.getD (12 + k) 0 = v at *
      have HV := Lib.hid hvv
      clear hvv
      have hws : w.heap.size < wr.heap.size := HR.out.1
      by_cases h255 : v = 255
      · subst h255
        have hset := HSET.out
        rw [show (255 + 1) % 256 = 0 by rfl] at hset
        have HS0 := Lib.hid hset
        clear hset
        go_wp2
        go_round
        case rel =>
          refine ⟨k, l.set (12 + k) 0, by omega, by simp; omega, ?_, by simp [hll], ?_, HS0.out, ?_⟩
          · rw [← HL.out, HGO.out]; rfl
          · intro i
            rw [getD_set _ _ _ _ (by omega)]
            split
            · omega
            · exact HLB.out i
          · exact HBL.out.setCell (show w.heap.size ≤ (⟨w.heap.size, 12 + k, none⟩ : Addr).block from Nat.le_refl _) _
        case measure => simp [intOf]; omega
      · have hvw : ((v : Int) + 1) % 256 = (v : Int) + 1 := by omega
        have hset := HSET.out
        rw [show (((v + 1) % 256 : Nat) : Int) = (v : Int) + 1 by omega] at hset
        have hst := string_of (P := Tryz.prog) (wr.setCell ⟨w.heap.size, 12 + k, none⟩ (.int .u8 ((v : Int) + 1))) 73 9 5 ⟨w.heap.size, 0, none⟩ 16 cap (l.set (12 + k) ((v + 1) % 256)) Tryz.underlying73 Tryz.underlying5 Tryz.underlying9 (by simp [hll]) (fun j hj => by
          have e1 : (⟨w.heap.size, 0, none⟩ : Addr).add j = ⟨w.heap.size, j, none⟩ := by simp [Addr.add]; omega
          rw [e1]; exact (hset.2 j (by simp; omega)).1)
        have hnn : ((v : Int) + 1 != 0) = true := by simp; omega
        clear hset
        go_wp2
        go_ret
        refine ⟨?_, ?_⟩
        · rw [next16, ← HL.out, HGO.out, if_neg (by omega)]; rfl
        · exact HBL.out.setCell (show w.heap.size ≤ (⟨w.heap.size, 12 + k, none⟩ : Addr).block from Nat.le_refl _) _
end Go.Proofs.YtlbpodddokhmaaaGreat.Gf
