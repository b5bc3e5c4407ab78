/-
  The reference for products of blocks: the walk of Of and of Bytes.
  Conditions: named at each.
-/
import Derived.Test.YtnnoimikoddbcaaRef08
namespace Go.Proofs.Ytnnoimikoddbcaa.Ref08
open Go.ChangeShapes Go.WideShapes Go.ChangeAt Go.RowKit Go.Deep Go.Proofs.Ytnnoimikoddbcaa.Gf
open Go.Proofs.Ytnnoimikoddbcaa.Field (X mul one R)
open Go.Proofs.Ytnnoimikoddbcaa.Aes (byteF byteF_lt zeros zeros_length)
set_option maxHeartbeats 800000 in
set_option maxRecDepth 100000 in
theorem Of_any (b : List UInt8) (w : World) (hb : b.length = 16) : Calls Try.prog 12 #[.string (B b)] w fun e w' => e = .returned (.agg (nums .u8 (polyL (rd b)))) ∧ Below w.heap.size w w' := by
  go_enter Try.func12, Try.ntmps12
  go_wp2
  rw [show Try.zeroCells26 = nums .u8 (zeros 128) by kernel_rfl]
  go_loopw [4] (fun s4 wr => ∃ (i : Nat) (l : List Nat), i ≤ 16 ∧ s4 = .int .i64 i ∧ l.length = 128 ∧ (∀ n, n < 8 * i → l.getD n 0 = bitP (rd b) n) ∧ wr = (w.alloc (.cells (nums .u8 (zeros 128)) 26)).alloc (.cells (nums .u8 l) 26)) (fun s _ => 16 - (intOf s).toNat)
  case atStart => exact ⟨0, zeros 128, by omega, rfl, zeros_length 128, by omega, rfl⟩
  case round =>
    obtain ⟨i, l, hi, rfl, hll, hl, rfl⟩ := hrel
    have HL := Lib.hid hl
    clear hl
    by_cases h16 : i = 16
    · subst h16
      have hlp : l = polyL (rd b) := by
        apply list_ext (by rw [hll, polyL_length])
        intro n hn
        rw [HL.out n (by omega), polyL_get _ _ (by omega)]
      have HP := Lib.hid hlp
      clear hlp
      go_upto_region 11 with fail
      apply wp_region_lit
      refine wpList_load_rowTo rfl (some 29) rfl 26 _ rfl (w.heap.size + 1) rfl (nums .u8 l) 26 (0, 0) (heap_at (by simp)) (.array 128 5) Try.underlying26 rfl (by rw [nums_size, hll]; kernel_rfl) ?_
      refine wpList_store_rowTo rfl 26 _ _ rfl rfl w.heap.size (nums .u8 l) rfl rfl 26 (nums .u8 (zeros 128)) (heap_under (heap_alloc_last w _)) (by rw [nums_size, hll]; kernel_rfl) (by rw [nums_size, nums_size, hll, zeros_length]) (nums_oneCell _ _) ?_
      rw [setRow_under _ _ _ _ (by simp), World.setRow_alloc_new]
      go_wp2
      refine post_row w.heap.size Try.results12 26 (nums .u8 l) (.array 128 5) rfl (heap_under (heap_alloc_last w _)) Try.underlying26 rfl (by rw [nums_size, hll]; kernel_rfl) rfl ⟨by rw [HP.out], by ((repeat' (with_reducible first | exact Below.refl _ _ | assumption | refine Below.drew ?_ | refine below_drewN ?_ _ | refine Below.setCell ?_ ?_ _ | refine Below.alloc ?_ ?_ _ | refine Below.ext ?_ ?_ _ | refine Below.trans ?_ (Below.mono ‹_› ?_))) <;> first | omega | (simp; done) | (simp; omega))⟩
    · have hlt : (i : Int) < 16 := by omega
      have hlt2 : i < 16 := by omega
      have hbv : ((b[i].toNat : Nat) : Int) = ((byteF b i : Nat) : Int) := by simp [byteF, List.getD, hb, hlt2]
      have hbl := byteF_lt b i
      have hwr : wrap64 ((b[i].toNat : Nat) : Int) = ((byteF b i : Nat) : Int) := by rw [hbv]; unfold wrap64; omega
      clear hbv
      go_wp2
      go_loopw [5, 6] (fun s5 s6 wr => ∃ (m c : Nat) (l : List Nat), m ≤ 8 ∧ s6 = .int .i64 ((m : Int) - 1) ∧ s5 = .int .i64 c ∧ c = byteF b i / 2 ^ (8 - m) ∧ l.length = 128 ∧ (∀ n, n < 8 * i ∨ (8 * i + m ≤ n ∧ n < 8 * i + 8) → l.getD n 0 = bitP (rd b) n) ∧ wr = (w.alloc (.cells (nums .u8 (zeros 128)) 26)).alloc (.cells (nums .u8 l) 26)) (fun _ s _ => (intOf s + 1).toNat)
      case atStart => exact ⟨8, byteF b i, l, by omega, rfl, by rw [hwr], by simp, hll, fun n hn => HL.out n (by omega), rfl⟩
      case round =>
        clear HL hll l hwr
        obtain ⟨m, c, l, hm, rfl, rfl, hc, hll, hl, rfl⟩ := hrel
        have HL := Lib.hid hl
        have HC := Lib.hid hc
        have hcl : c < 256 := by rw [hc]; exact Nat.lt_of_le_of_lt (Nat.div_le_self _ _) hbl
        clear hl hc
        rcases m with _ | m
        · go_wp2
          go_round
          case rel => exact ⟨i + 1, l, by omega, by go_num, hll, fun n hn => HL.out n (by omega), rfl⟩
          case measure => simp [intOf]; omega
        · have hmm : ((m + 1 : Nat) : Int) - 1 = (m : Int) := by omega
          rw [hmm]
          have hm7 : (m : Int) ≤ 7 := by omega
          have hg := nums_getD .u8 (l := l) (i := 8 * i + m) (by omega)
          have hc2 : (c : Int) % 2 % 256 = ((c % 2 : Nat) : Int) := by omega
          go_wp2
          go_round
          case rel =>
            refine ⟨m, c / 2, l.set (8 * i + m) (c % 2), by omega, rfl, by simp, ?_, by simp [hll], fun n hn => ?_, ?_⟩
            · rw [HC.out, Nat.div_div_eq_div_mul, ← Nat.pow_succ]
              congr 2
              omega
            · rw [getD_set _ _ _ _ (by omega)]
              by_cases e : n = 8 * i + m
              · rw [if_pos e, e, rd_bit b _ (by omega), HC.out, show (8 * i + m) / 8 = i by omega, show 7 - (8 * i + m) % 8 = 8 - (m + 1) by omega]
              · rw [if_neg e]
                exact HL.out n (by omega)
            · rw [← nums_set]
              simp
          case measure => simp [intOf]
/-- A byte of a block, as far as i bits have come. -/
def part (e i j : Nat) : Nat := byteF (WR e) j / 2 ^ (8 - min 8 (i - 8 * j))
theorem part_zero (e j : Nat) : part e 0 j = 0 := by
  unfold part
  rw [Nat.zero_sub, Nat.min_zero]
  exact Nat.div_eq_of_lt (byteF_lt _ _)
theorem part_other (e i j : Nat) (h : ¬ i / 8 = j) : part e (i + 1) j = part e i j := by
  unfold part
  congr 2
  have : min 8 (i + 1 - 8 * j) = min 8 (i - 8 * j) := by omega
  rw [this]
theorem part_step {e i : Nat} (he : e < 2 ^ 128) (h : i < 128) : part e (i + 1) (i / 8) = part e i (i / 8) * 2 + bitP e i := by
  have hb := rd_bit (WR e) i h
  rw [rd_WR he] at hb
  rw [hb]
  unfold part
  have h1 : min 8 (i - 8 * (i / 8)) = i % 8 := by omega
  have h2 : min 8 (i + 1 - 8 * (i / 8)) = i % 8 + 1 := by omega
  rw [h1, h2]
  have h3 : 8 - i % 8 = (7 - i % 8) + 1 := by omega
  have h4 : 8 - (i % 8 + 1) = 7 - i % 8 := by omega
  rw [h3, h4, Nat.pow_succ, ← Nat.div_div_eq_div_mul]
  omega
theorem part_lt {e i : Nat} (_h : i < 128) : part e i (i / 8) < 128 := by
  unfold part
  have h1 : min 8 (i - 8 * (i / 8)) = i % 8 := by omega
  rw [h1, show 8 - i % 8 = (7 - i % 8) + 1 by omega, Nat.pow_succ, ← Nat.div_div_eq_div_mul]
  have h2 := byteF_lt (WR e) (i / 8)
  have : byteF (WR e) (i / 8) / 2 ^ (7 - i % 8) ≤ byteF (WR e) (i / 8) := Nat.div_le_self _ _
  omega
theorem part_end (e j : Nat) (h : j < 16) : part e 128 j = byteF (WR e) j := by
  unfold part
  rw [show min 8 (128 - 8 * j) = 8 by omega]
  simp
set_option maxHeartbeats 800000 in
set_option maxRecDepth 100000 in
theorem Bytes_any (e : Nat) (w : World) (he : e < 2 ^ 128) : Calls Try.prog 14 #[.agg (nums .u8 (polyL e))] w fun r w' => r = .returned (.string (B (WR e))) ∧ Below w.heap.size w w' := by
  have hmk : (Instr.makeSlice 24 (.int .i64 16) (.int .i64 16)).run Try.prog (w.alloc (.cells (nums .u8 (polyL e)) 26)) = .ok (.slice (some ⟨w.heap.size + 1, 0, none⟩) 16 16) ((w.alloc (.cells (nums .u8 (polyL e)) 26)).alloc (.cells (nums .u8 (zeros 16)) 5)) := by
    have h := run_make_row' (P := Try.prog) 24 5 (.int .u8 0) 1 Try.underlying24 Bld.infoByte rfl .i64 .i64 16 (by omega) (by omega) (w.alloc (.cells (nums .u8 (polyL e)) 26))
    rw [show madeCells #[.int .u8 0] 16 = nums .u8 (zeros 16) by kernel_rfl, show (w.alloc (.cells (nums .u8 (polyL e)) 26)).heap.size = w.heap.size + 1 by simp] at h
    exact h
  go_enter Try.func14, Try.ntmps14
  go_wp2
  clear hmk
  go_loopw [4] (fun s4 wr => ∃ (i : Nat) (l : List Nat) (u : Xt), i ≤ 128 ∧ s4 = .int .i64 i ∧ l.length = 16 ∧ (∀ j, j < 16 → l.getD j 0 = part e i j) ∧ wr = ext ((w.alloc (.cells (nums .u8 (polyL e)) 26)).alloc (.cells (nums .u8 l) 5)) u) (fun s _ => 128 - (intOf s).toNat)
  case atStart => exact ⟨0, zeros 16, ⟨#[], w.drawn⟩, by omega, rfl, zeros_length 16, fun j _ => by rw [Aes.zeros_get, part_zero], rfl⟩
  case round =>
    obtain ⟨i, l, u, hi, rfl, hll, hl, rfl⟩ := hrel
    have HL := Lib.hid hl
    clear hl
    by_cases h128 : i = 128
    · subst h128
      have hst := string_of (P := Try.prog) (ext ((w.alloc (.cells (nums .u8 (polyL e)) 26)).alloc (.cells (nums .u8 l) 5)) u) 24 9 5 ⟨w.heap.size + 1, 0, none⟩ 16 16 l Try.underlying24 Try.underlying5 Try.underlying9 hll (fun j hj => by
        have e1 : (⟨w.heap.size + 1, 0, none⟩ : Addr).add j = ⟨w.heap.size + 1, j, none⟩ := by simp [Addr.add]; omega
        rw [e1, cell_of_row _ (w.heap.size + 1) j _ _ _ (heap_ext (heap_at (by simp))), nums_getD .u8 (by omega)])
      have hres : NB l = B (WR e) := by
        rw [← NB_natL]
        congr 1
        apply list_ext (by rw [hll, natL_length, WR_length])
        intro j hj
        rw [HL.out j (by omega), part_end _ _ (by omega), natL, tab_get _ _ _ (by rw [WR_length]; omega)]
      rw [hres] at hst
      clear hres
      go_wp2
      go_ret
      exact ⟨rfl, by ((repeat' (with_reducible first | exact Below.refl _ _ | assumption | refine Below.drew ?_ | refine below_drewN ?_ _ | refine Below.setCell ?_ ?_ _ | refine Below.alloc ?_ ?_ _ | refine Below.ext ?_ ?_ _ | refine Below.trans ?_ (Below.mono ‹_› ?_))) <;> first | omega | (simp; done) | (simp; omega))⟩
    · have hlt : (i : Int) < 128 := by omega
      have hlt2 : i < 128 := by omega
      have hg := nums_getD .u8 (l := l) (i := i / 8) (by omega)
      have hg2 := nums_getD .u8 (l := polyL e) (i := i) (by rw [polyL_length]; omega)
      rw [HL.out (i / 8) (by omega)] at hg
      rw [polyL_get _ _ hlt2] at hg2
      have hpl := part_lt (e := e) hlt2
      have hbl := bitP_lt e i
      have hstep := part_step he hlt2
      have hq1 : ∃ d, d = i / 8 := ⟨_, rfl⟩
      obtain ⟨d, hd⟩ := hq1
      have hqi : (i : Int) / 8 = (d : Int) := by omega
      have hqt : (i : Int).tdiv 8 = (d : Int) := by rw [Int.tdiv_eq_ediv_of_nonneg (by omega)]; omega
      have hd16 : d < 16 := by omega
      have hd16i : (d : Int) < 16 := by omega
      rw [← hd] at hg hstep hpl
      have HST := Lib.hid hstep
      clear hstep
      have HD := Lib.hid hd
      clear hd
      have hge : ∀ h, (nums .u8 l)[d]'h = .int .u8 ((part e i d : Nat) : Int) := fun h => by rw [Array.getElem?_eq_getElem h] at hg; exact Option.some.inj hg
      have hge2 : ∀ h, (nums .u8 (polyL e))[i]'h = .int .u8 ((bitP e i : Nat) : Int) := fun h => by rw [Array.getElem?_eq_getElem h] at hg2; exact Option.some.inj hg2
      generalize part e i d = p at *
      generalize bitP e i = q at *
      go_wp2
      go_region
      go_wp2
      go_round
      case rel =>
        refine ⟨i + 1, l.set d (p * 2 + q), bump u, by omega, by go_num, by simp [hll], fun j hj => ?_, ?_⟩
        · rw [getD_set _ _ _ _ (by omega)]
          by_cases hjd : j = d
          · rw [if_pos hjd, hjd, HST.out]
          · rw [if_neg hjd, HL.out j hj, part_other _ _ _ (by rw [← HD.out]; omega)]
        · rw [← nums_set]
          simp
      case measure => simp [intOf]; omega
end Go.Proofs.Ytnnoimikoddbcaa.Ref08
