/-
  The walks of strconv.FormatUint at base 10 and of the reference's Digits: the decimal numeral.
  Conditions: the table of powers holds what the program's text lays.
-/
import Derived.Test.YtlbpodddokhmaaaDoorShelf
import Derived.Test.YtlbpodddokhmaaaDoorItm8
import Derived.Lib.ItoaMem
import Derived.Lib.ItoaLen
import Derived.Lib.LaidTab
import Derived.Lib.AppendIntMem
namespace Go.Proofs.YtlbpodddokhmaaaDoor.Fmt
open Go.ChangeShapes Go.WideShapes Go.ChangeAt Go.RowKit Go.Deep Go.Lib Go.Sort Go.Proofs.YtlbpodddokhmaaaDoor.Itm
/-- The library's table of powers holds what it should. -/
def Tab (w : World) : Prop := TabIs Tryd.prog w "internal/strconv.uint64pow10" .u64 pow10Tab
theorem Tab.below {w w' : World} {B : Nat} (h : Tab w) (hB : B = w.heap.size) (hb : Below B w w') : Tab w' := by
  subst hB
  exact tabBelow_of_tabIs h _ hb
theorem holds24 (w : World) (T : TypeId) (nd : Nat) (hs : nd ≤ 24) : Holds (fun (b : UInt8) => Value.int .u8 (b.toNat : Int)) (w.alloc (.cells zeros24 T)) w.heap.size 0 (Array.replicate nd (0 : UInt8)) := fun j hj => by
  have hj' : j < nd := by simpa using hj
  refine ⟨?_, World.frozen?_alloc_new _ _ _ _⟩
  rw [World.cell?_alloc_new, zeros24_at _ (by omega), getElem!_pos _ j hj]
  simp
theorem mapBlock_below {w w' : World} {B b : Nat} (f : Array Value → Array Value) (h : Below B w w') (hb : B ≤ b) : Below B w (mapBlock w' b f) := by
  refine h.trans ⟨rfl, rfl, rfl, ?_, fun k hk => ?_⟩
  · simp [mapBlock]
  · simp only [mapBlock, Array.getElem?_modify, if_neg (show ¬ b = k by omega)]
set_option maxHeartbeats 1600000 in
set_option maxRecDepth 100000 in
theorem iFormatUint_any (u : Nat) (hu : u < W64) (w : World) (ht : Tab w) : Calls Tryd.prog 31 #[.int .u64 u, .int .i64 10] w fun e w' => e = .returned (.string (B (decDigits u))) ∧ Below w.heap.size w w' := by
  unfold W64 at hu
  by_cases hs : u < 100
  · have hs' : (u : Int) < 100 := by omega
    go_enter Tryd.func31, Tryd.ntmps31
    go_wp2_with fail
    refine (Tryd.internal_strconv_small u hs _).mono ?_
    rintro e w' ⟨rfl, rfl⟩
    go_wp2
    go_ret
    exact ⟨rfl, Below.refl _ _⟩
  · have hu1 : 1 ≤ u := by omega
    have hnd20 : nDigits u ≤ 20 := nDigits_le20 u hu
    have hnd1 := nDigits_pos u
    have hal : Tryd.prog.arrayLen 66 = 24 := by kernel_rfl
    have hsl : ∀ W, (Instr.sliceAt 66 (.pointer (some ⟨w.heap.size, 0, none⟩)) none (some (.int .i64 (nDigits u : Int))) none).run Tryd.prog W = .ok (.slice (some ⟨w.heap.size, 0, none⟩) (nDigits u) 24) W := fun W => by
      rw [run_sliceAt_array_h W 66 ⟨w.heap.size, 0, none⟩ (by kernel_rfl) .i64 (nDigits u : Int) (by omega) (by rw [hal]; omega)]
      go_simp
    have hH0 := holds24 w 66 (nDigits u) (by omega)
    have hfmt := Tryd.internal_strconv_formatBase10 w.heap.size 0 24 u (Array.replicate (nDigits u) 0) (w.alloc (.cells zeros24 66)) hH0 (by rw [Array.size_replicate]; exact lt_pow_nDigits u) hu (by rw [Array.size_replicate]; omega)
    rw [Array.size_replicate] at hfmt
    have HH0 := Lib.hid hH0
    have HF := Lib.hid hfmt
    have hb0 : Below w.heap.size w (w.alloc (.cells zeros24 66)) := (Below.refl _ _).alloc (Nat.le_refl _) _
    have HT := Lib.hid (ht.below rfl hb0)
    have HB0 := Lib.hid hb0
    have hs' : ¬ (u : Int) < 100 := by omega
    clear hH0 hal hfmt hb0
    go_enter Tryd.func31, Tryd.ntmps31
    go_wp2_with fail
    refine (Tryd.internal_strconv_numDigits u hu1 hu _ HT.out).mono ?_
    rintro e w' ⟨rfl, rfl⟩
    go_wp2_with fail
    refine HF.out.mono ?_
    rintro e w' ⟨rfl, k, v', dk, rfl, hF⟩
    have hcv : (convert 61 9 (.slice (some ⟨w.heap.size, 0, none⟩) (nDigits u) 24)).run Tryd.prog ((putRow (fun (b : UInt8) => Value.int .u8 (b.toNat : Int)) (w.alloc (.cells zeros24 66)) w.heap.size 0 dk).drewN k) = .ok (.string ⟨(decDigits u).toArray⟩) ((putRow (fun (b : UInt8) => Value.int .u8 (b.toNat : Int)) (w.alloc (.cells zeros24 66)) w.heap.size 0 dk).drewN k) := by
      have h := run_convert_bytes_back (P := Tryd.prog) ((putRow (fun (b : UInt8) => Value.int .u8 (b.toNat : Int)) (w.alloc (.cells zeros24 66)) w.heap.size 0 dk).drewN k) 61 9 5 ⟨w.heap.size, 0, none⟩ 24 (decDigits u) Tryd.underlying61 Tryd.underlying5 Tryd.underlying9 (fun j hj => by
        rw [row_is_numeral hF j hj, Lib.add_plain, World.cell?_drewN]
        exact cell?_putRow (fun (b : UInt8) => Value.int .u8 (b.toNat : Int)) _ w.heap.size 0 _ dk HH0.out (by rw [hF.size, Array.size_replicate]) j (by rw [hF.size]; rw [decDigits_length] at hj; exact hj))
      rw [decDigits_length] at h
      exact h
    have hb1 : Below w.heap.size w ((putRow (fun (b : UInt8) => Value.int .u8 (b.toNat : Int)) (w.alloc (.cells zeros24 66)) w.heap.size 0 dk).drewN k) := by
      have h1 := mapBlock_below (putCells (fun (b : UInt8) => Value.int .u8 (b.toNat : Int)) 0 dk) HB0.out (Nat.le_refl w.heap.size)
      exact h1.trans ((below_drewN _ _).mono h1.size)
    generalize (putRow (fun (b : UInt8) => Value.int .u8 (b.toNat : Int)) (w.alloc (.cells zeros24 66)) w.heap.size 0 dk).drewN k = w2 at *
    clear hF HF HH0
    go_wp2
    go_ret
    exact ⟨rfl, hb1⟩
theorem FormatUint_any (u : Nat) (hu : u < W64) (w : World) (ht : Tab w) : Calls Tryd.prog 23 #[.int .u64 u, .int .i64 10] w fun e w' => e = .returned (.string (B (decDigits u))) ∧ Below w.heap.size w w' := by
  have H := Lib.hid (iFormatUint_any u hu w ht)
  clear hu ht
  go_enter Tryd.func23, Tryd.ntmps23
  go_wp2_with fail
  refine H.out.mono ?_
  rintro e w' ⟨rfl, hb⟩
  have HB := Lib.hid hb
  clear hb
  go_wp2
  go_ret
  exact ⟨rfl, HB.out⟩
theorem dec_big {m : Nat} (h : ¬ m < 10) : decDigits m = decDigits (m / 10) ++ [UInt8.ofNat (48 + m % 10)] := by
  rw [decDigits, dif_neg h]
theorem dec_len20 {m : Nat} (h : m < W64) : (decDigits m).length ≤ 20 := by
  rw [decDigits_length]
  exact nDigits_le20 m h
set_option maxHeartbeats 1600000 in
set_option maxRecDepth 100000 in
theorem Digits_any (u : Nat) (hu : u < W64) (w : World) : Calls Tryd.prog 30 #[.int .u64 u] w fun e w' => e = .returned (.string (B (decDigits u))) ∧ Below w.heap.size w w' := by
  have HU := Lib.hid hu
  unfold W64 at hu
  have hu2 : u < 18446744073709551616 := hu
  have H20 : Hid (u < 10 ^ (20 - 0)) := Lib.hid (by
    have : (18446744073709551616 : Nat) < 10 ^ (20 - 0) := by decide
    omega)
  go_enter Tryd.func30, Tryd.ntmps30
  go_wp2_with fail
  go_loopw [0, 3, 4] (fun s0 s3 s4 wr => ∃ (i m : Nat) (s : List UInt8), i ≤ 20 ∧ s4 = .int .i64 (i : Int) ∧ s0 = .int .u64 m ∧ s3 = .string (B s) ∧ Hid (m < 10 ^ (20 - i)) ∧ Hid (i = 0 ∨ m ≠ 0) ∧ m < 18446744073709551616 ∧ Hid (decDigits u = decDigits m ++ s ∨ (i = 0 ∧ s = [] ∧ m = u)) ∧ s.length ≤ 20 ∧ Below w.heap.size w wr) (fun _ _ s _ => 20 - (RowKit.intOf s).toNat)
  case atStart => exact ⟨0, u, [], by omega, rfl, rfl, rfl, H20, Lib.hid (.inl rfl), hu, Lib.hid (.inr ⟨rfl, rfl, rfl⟩), by simp, Below.refl _ _⟩
  case round =>
    obtain ⟨i, m, s, hi, rfl, rfl, rfl, HM, HZ, hm, HD, hsl, hb⟩ := hrel
    have hi20 : i < 20 := by
      rcases Nat.lt_or_ge i 20 with h | h
      · exact h
      · have h1 := HM.out
        rw [show 20 - i = 0 by omega] at h1
        rcases HZ.out with h2 | h2
        · omega
        · simp at h1; omega
    have hlt : (i : Int) < 20 := by omega
    have hd2 : decDigits u = decDigits m ++ s := by
      rcases HD.out with h | ⟨_, rfl, rfl⟩
      · exact h
      · simp
    obtain ⟨y, hy⟩ : ∃ y : Nat, 48 + m % 10 = y := ⟨_, rfl⟩
    have hy1 : 48 + (m : Int) % 10 = (y : Int) := by omega
    have hy2 : (y : Int) % 256 = (y : Int) := by omega
    have hy3 : y < 256 := by omega
    obtain ⟨m2, hm2⟩ : ∃ m2 : Nat, m / 10 = m2 := ⟨_, rfl⟩
    have hm3 : (m : Int) / 10 = (m2 : Int) := by omega
    have hm4 : m2 < 18446744073709551616 := by omega
    have HM2 : Hid (m2 < 10 ^ (20 - (i + 1))) := Lib.hid (by
      have h1 := HM.out
      rw [show 20 - i = 20 - (i + 1) + 1 by omega, Nat.pow_succ] at h1
      rw [← hm2]
      exact Nat.div_lt_of_lt_mul (by rw [Nat.mul_comm]; exact h1))
    have hsl2 : i < 20 → s.length ≤ 9223372036854775806 := fun _ => by omega
    have hsl3 : s.length ≤ 9223372036854775806 := by omega
    have HDL : Hid ((UInt8.ofNat y :: s).length ≤ 20) := Lib.hid (by
      have h1 := congrArg List.length hd2
      have h2 := dec_len20 HU.out
      rw [List.length_append, decDigits_length m] at h1
      have := nDigits_pos m
      rw [List.length_cons]
      omega)
    have hcv := conv1 wr y 5
    have hbs := hb.size
    have HB := Lib.hid (show Below w.heap.size w (wr.alloc (.cells #[.int .u8 (y : Int)] 5)) from hb.alloc hb.size _)
    clear hsl2 hb
    by_cases h0 : m2 = 0
    · have HF : Hid (decDigits u = UInt8.ofNat y :: s) := Lib.hid (by
        have h10 : m < 10 := by omega
        rw [hd2, decDigits_one h10, ← hy, Nat.mod_eq_of_lt h10]
        rfl)
      subst h0
      clear hd2 hy hm2
      go_wp2
      go_ret
      exact ⟨by rw [HF.out]; rfl, HB.out⟩
    · have HD2 : Hid (decDigits u = decDigits m2 ++ (UInt8.ofNat y :: s)) := Lib.hid (by
        have h10 : ¬ m < 10 := by omega
        rw [hd2, dec_big h10, hm2, hy, List.append_assoc]
        rfl)
      have HN0 := Lib.hid h0
      have h0' : ¬ (m2 : Int) = 0 := by omega
      clear hd2 hy hm2 h0
      go_wp2
      go_round
      case rel => exact ⟨i + 1, m2, UInt8.ofNat y :: s, by omega, by go_num, rfl, rfl, HM2, Lib.hid (.inr HN0.out), hm4, Lib.hid (.inl HD2.out), HDL.out, HB.out⟩
      case measure => simp [RowKit.intOf]; omega
end Go.Proofs.YtlbpodddokhmaaaDoor.Fmt
