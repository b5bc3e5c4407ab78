/-
  The walk of the reference's Hash.
  Conditions: the first text is a block; the others are not longer than a million bytes.
-/
import Derived.Test.YtnnoimikoddbcaaRef08d
import Derived.Test.YtnnoimikoddbcaaBlk
namespace Go.Proofs.Ytnnoimikoddbcaa.Ref08
open Go.ChangeShapes Go.WideShapes Go.ChangeAt Go.RowKit Go.Deep Go.Proofs.Ytnnoimikoddbcaa.Gf
open Go.Proofs.Ytnnoimikoddbcaa.Aes (zeros zeros_length zeros_get stop_store)
open Go.Proofs.Ytnnoimikoddbcaa.Field (X mul one R)
set_option maxHeartbeats 1600000 in
set_option maxRecDepth 100000 in
theorem Hash_any (h a t : List UInt8) (w : World) (hh : h.length = 16) (ha : a.length ≤ 1000000) (ht : t.length ≤ 1000000) : Calls Try.prog 17 #[.string (B h), .string (B a), .string (B t)] w fun e w' => e = .returned (.string (B (hashB h a t))) ∧ Below w.heap.size w w' := by
  have HFA := Lib.hid fun W => filled_any a W ha
  have HFT := Lib.hid fun W => filled_any t W ht
  have HLA := Lib.hid fun W => bits_any a W ha
  have HLT := Lib.hid fun W => bits_any t W ht
  have HOF := Lib.hid fun W => Of_any h W hh
  have hall : fillB a ++ (fillB t ++ (lenB a.length ++ lenB t.length)) = allB a t := rfl
  have hmod := allB_mod a t
  have hl1 := fillB_length a
  have hl2 := fillB_length t
  have hp1 : pad a.length < 16 := Nat.mod_lt _ (by omega)
  have hp2 : pad t.length < 16 := Nat.mod_lt _ (by omega)
  have hl3 := lenB_length a.length
  have hl4 := lenB_length t.length
  have hal : (allB a t).length ≤ 3000000 := by simp only [allB, List.length_append, lenB_length]; omega
  have HASH := Lib.hid (show B (hashB h a t) = B (WR (sumN h (allB a t) ((allB a t).length / 16))) from rfl)
  have HALL := Lib.hid hall
  have HMOD := Lib.hid hmod
  have hlt2 := polyL_length (rd h)
  have HRD := Lib.hid (rd_lt h)
  clear hall hmod
  generalize hashB h a t = res at *
  generalize fillB a = fa at *
  generalize fillB t = ft at *
  have hfal : fa.length ≤ 1000100 := by omega
  have hftl : ft.length ≤ 1000100 := by omega
  clear hl1 hl2 hp1 hp2
  generalize lenB a.length = la at *
  generalize lenB t.length = lt at *
  go_enter Try.func17, Try.ntmps17
  go_wp2_with fail
  refine Calls.ext (HFA.out _) fun u1 => ?_
  go_wp2_with fail
  refine Calls.ext (HFT.out _) fun u2 => ?_
  go_wp2_with fail
  refine Calls.ext (HLA.out _) fun u3 => ?_
  go_wp2_with fail
  refine Calls.ext (HLT.out _) fun u4 => ?_
  go_wp2_with fail
  refine Calls.ext (HOF.out _) fun u5 => ?_
  go_wp2_with (with_reducible refine stop_store (t := 26) rfl ?_)
  refine Lib.hid ?_
  have hz128 : (nums .u8 (zeros 128)) = Try.zeroCells26 := by kernel_rfl
  have hV : w.heap.size + more (comb (comb (comb (comb u1 u2) u3) u4) u5) = (ext w (comb (comb (comb (comb u1 u2) u3) u4) u5)).heap.size := by simp
  have HBV : Below w.heap.size w (ext w (comb (comb (comb (comb u1 u2) u3) u4) u5)) := by ((repeat' (with_reducible first | exact Below.refl _ _ | assumption | refine Below.drew ?_ | refine below_drewN ?_ _ | refine Below.setCell ?_ ?_ _ | refine Below.alloc ?_ ?_ _ | refine Below.ext ?_ ?_ _ | refine Below.trans ?_ (Below.mono ‹_› ?_))) <;> first | omega | (simp; done) | (simp; omega))
  generalize ext w (comb (comb (comb (comb u1 u2) u3) u4) u5) = V at *
  generalize w.heap.size + more (comb (comb (comb (comb u1 u2) u3) u4) u5) = n at *
  subst hV
  rw [← hz128]
  refine wpList_store_rowTo rfl 26 _ _ rfl rfl V.heap.size (nums .u8 (polyL (rd h))) rfl rfl 26 (nums .u8 (zeros 128)) (heap_alloc_last V _) (by rw [nums_size, hlt2]; kernel_rfl) (by rw [nums_size, nums_size, hlt2, zeros_length]) (nums_oneCell _ _) ?_
  rw [World.setRow_alloc_new]
  have h8 := NumsAt.new V 26 .u8 (polyL (rd h))
  have hb8 : w.heap.size ≤ V.heap.size := HBV.size
  have HB8 : Below w.heap.size w (V.alloc (.cells (nums .u8 (polyL (rd h))) 26)) := HBV.trans (Below.mono (by ((repeat' (with_reducible first | exact Below.refl _ _ | assumption | refine Below.drew ?_ | refine below_drewN ?_ _ | refine Below.setCell ?_ ?_ _ | refine Below.alloc ?_ ?_ _ | refine Below.ext ?_ ?_ _ | refine Below.trans ?_ (Below.mono ‹_› ?_))) <;> first | omega | (simp; done) | (simp; omega))) HBV.size)
  generalize V.alloc (.cells (nums .u8 (polyL (rd h))) 26) = W1 at *
  clear HBV
  generalize V.heap.size = b8 at *
  clear V u1 u2 u3 u4 u5
  go_upto_region 4 with fail
  rw [← hz128, show zeros 128 = polyL 0 by decide]
  have h9 := NumsAt.new W1 26 .u8 (polyL 0)
  have h8 := h8.alloc (.cells (nums .u8 (polyL 0)) 26)
  have hne : b8 < W1.heap.size := Aes.lt_of_heap (by assumption)
  have HB9 : Below w.heap.size w (W1.alloc (.cells (nums .u8 (polyL 0)) 26)) := HB8.trans (Below.mono (by ((repeat' (with_reducible first | exact Below.refl _ _ | assumption | refine Below.drew ?_ | refine below_drewN ?_ _ | refine Below.setCell ?_ ?_ _ | refine Below.alloc ?_ ?_ _ | refine Below.ext ?_ ?_ _ | refine Below.trans ?_ (Below.mono ‹_› ?_))) <;> first | omega | (simp; done) | (simp; omega))) HB8.size)
  generalize W1.alloc (.cells (nums .u8 (polyL 0)) 26) = W2 at *
  generalize W1.heap.size = b9 at *
  rw [HALL.out]
  clear HALL HFA HFT HLA HLT hl3 hl4 hfal hftl HOF HB8
  generalize allB a t = A at *
  have hb9 : w.heap.size ≤ b9 := by omega
  go_wp2
  go_loopw [10] (fun s10 wr => ∃ (k p : Nat), p ≤ A.length ∧ s10 = .int .i64 p ∧ p = 16 * k ∧ NumsAt wr b8 26 .u8 (polyL (rd h)) ∧ NumsAt wr b9 26 .u8 (polyL (sumN h A k)) ∧ Below w.heap.size w wr) (fun s _ => A.length - (intOf s).toNat)
  case atStart => exact ⟨0, 0, by omega, rfl, rfl, h8, h9, HB9⟩
  case round =>
    clear h8 h9 HB9 W2
    obtain ⟨k, p, hp, rfl, hpk, h8, h9, hbel⟩ := hrel
    have HPK := Lib.hid hpk
    have hsl := sumN_lt h A k
    have HSL := Lib.hid hsl
    have hpl := polyL_length (sumN h A k)
    clear hsl
    by_cases hend : p = A.length
    · have hlt : ¬ (p : Int) < (A.length : Int) := by omega
      have hk : k = A.length / 16 := by omega
      have HBY := Lib.hid fun W => Bytes_any (sumN h A k) W HSL.out
      have HE := Lib.hid (show B res = B (WR (sumN h A k)) by rw [HASH.out, hk])
      clear hend hk hpk
      go_upto_region 13 with fail
      apply wp_region_lit (l := [_, _, _])
      refine wpList_load_rowTo rfl _ rfl 26 _ rfl b9 rfl (nums .u8 (polyL (sumN h A k))) 26 (0, 0) h9 _ Try.underlying26 rfl (by rw [nums_size, hpl]; kernel_rfl) ?_
      go_wp2_with fail
      refine Calls.below (HBY.out _) fun W5 hW5 => ?_
      go_wp2
      go_ret
      exact ⟨by rw [HE.out]; rfl, hbel.trans (hW5.mono hbel.size)⟩
    · have hlt : (p : Int) < (A.length : Int) := by omega
      have hmod := HMOD.out
      have h16 : p + 16 ≤ A.length := by omega
      have h16i : (p : Int) + 16 ≤ (A.length : Int) := by omega
      have hbl : (A.drop p).take 16 = blk A k := by rw [blk, hpk]
      have hbll : (blk A k).length = 16 := by rw [blk_length]; omega
      have HOF := Lib.hid fun W => Of_any (blk A k) W hbll
      have HBL := Lib.hid hbl
      clear hend hmod hpk hbl
      go_wp2_with fail
      rw [HBL.out]
      refine Calls.below (HOF.out _) fun W3 hW3 => ?_
      go_wp2_with (with_reducible refine stop_store (t := 26) rfl ?_)
      refine Lib.hid ?_
      replace h8 := h8.below hW3
      replace h9 := h9.below hW3
      replace hbel := hbel.trans (hW3.mono hbel.size)
      have hxl := polyL_length (rd (blk A k))
      rw [← hz128]
      refine wpList_store_rowTo rfl 26 _ _ rfl rfl W3.heap.size (nums .u8 (polyL (rd (blk A k)))) rfl rfl 26 (nums .u8 (zeros 128)) (heap_alloc_last W3 _) (by rw [nums_size, hxl]; kernel_rfl) (by rw [nums_size, nums_size, hxl, zeros_length]) (nums_oneCell _ _) ?_
      rw [World.setRow_alloc_new]
      have hx := NumsAt.new W3 26 .u8 (polyL (rd (blk A k)))
      have hn9 : b9 < W3.heap.size := h9.lt
      replace h8 := h8.alloc (.cells (nums .u8 (polyL (rd (blk A k)))) 26)
      replace h9 := h9.alloc (.cells (nums .u8 (polyL (rd (blk A k)))) 26)
      replace hbel := hbel.trans (Below.mono (show Below W3.heap.size W3 (W3.alloc (.cells (nums .u8 (polyL (rd (blk A k)))) 26)) by ((repeat' (with_reducible first | exact Below.refl _ _ | assumption | refine Below.drew ?_ | refine below_drewN ?_ _ | refine Below.setCell ?_ ?_ _ | refine Below.alloc ?_ ?_ _ | refine Below.ext ?_ ?_ _ | refine Below.trans ?_ (Below.mono ‹_› ?_))) <;> first | omega | (simp; done) | (simp; omega))) hbel.size)
      generalize W3.alloc (.cells (nums .u8 (polyL (rd (blk A k)))) 26) = W4 at *
      generalize W3.heap.size = bx at *
      clear hW3 W3 wr
      have hrd := rd_lt (blk A k)
      have HXN := Lib.hid (show sumN h A (k + 1) = mul (sumN h A k ^^^ rd (blk A k)) (rd h) from rfl)
      generalize rd (blk A k) = xe at *
      generalize hse : sumN h A k = se at *
      have HSE := Lib.hid hse
      have HRX := Lib.hid hrd
      clear hse hrd
      go_wp2
      go_loopw [12] (fun s12 wy => ∃ (j : Nat) (l : List Nat), j ≤ 128 ∧ s12 = .int .i64 j ∧ l = fillN (orF2 se xe) (polyL se) j ∧ NumsAt wy b8 26 .u8 (polyL (rd h)) ∧ NumsAt wy b9 26 .u8 l ∧ NumsAt wy bx 26 .u8 (polyL xe) ∧ Below w.heap.size w wy) (fun s _ => 128 - (intOf s).toNat)
      case atStart => exact ⟨0, polyL se, by omega, rfl, rfl, h8, h9, hx, hbel⟩
      case round =>
        clear h8 h9 hx hbel W4
        obtain ⟨j, l, hj, rfl, hl, h8, h9, hx, hbel⟩ := hrel
        have HL := Lib.hid hl
        have hll : l.length = 128 := by rw [hl, fillN_length, polyL_length]
        clear hl
        by_cases hj128 : j = 128
        · subst hj128
          have hfin : l = polyL (se ^^^ xe) := by rw [HL.out, orF2_end]
          have hlt3 : se ^^^ xe < 2 ^ 128 := Nat.xor_lt_two_pow (HSE.out ▸ HSL.out) HRX.out
          have HTM := Lib.hid fun W => Times_any (se ^^^ xe) (rd h) W hlt3 HRD.out
          have hpn := polyL_length (mul (se ^^^ xe) (rd h))
          have HFIN := Lib.hid hfin
          clear hfin
          go_upto_region 12 with fail
          apply wp_region_lit (l := [_, _, _, _])
          rw [HFIN.out] at h9 hll
          refine wpList_load_rowTo rfl _ rfl 26 _ rfl b9 rfl (nums .u8 (polyL (se ^^^ xe))) 26 (0, 0) h9 _ Try.underlying26 rfl (by rw [nums_size, hll]; kernel_rfl) ?_
          refine wpList_load_rowTo rfl _ rfl 26 _ rfl b8 rfl (nums .u8 (polyL (rd h))) 26 (0, 0) h8 _ Try.underlying26 rfl (by rw [nums_size, hlt2]; kernel_rfl) ?_
          go_wp2_with fail
          refine Calls.below (HTM.out _) fun W5 hW5 => ?_
          go_wp2_with (with_reducible refine stop_store (t := 26) rfl ?_)
          refine Lib.hid ?_
          replace h8 := h8.below hW5
          replace h9 := h9.below hW5
          replace hbel := hbel.trans (hW5.mono hbel.size)
          refine wpList_store_rowTo rfl 26 _ _ rfl rfl b9 (nums .u8 (polyL (mul (se ^^^ xe) (rd h)))) rfl rfl 26 (nums .u8 (polyL (se ^^^ xe))) h9 (by rw [nums_size, hpn]; kernel_rfl) (by rw [nums_size, nums_size, hll, hpn]) (nums_oneCell _ _) ?_
          replace h8 := h8.setRow_other b9 (nums .u8 (polyL (mul (se ^^^ xe) (rd h)))) (by omega)
          replace h9 := h9.setRow (polyL (mul (se ^^^ xe) (rd h)))
          replace hbel := Below.setRow hbel b9 hb9 (nums .u8 (polyL (mul (se ^^^ xe) (rd h))))
          generalize W5.setRow b9 (nums .u8 (polyL (mul (se ^^^ xe) (rd h)))) = W6 at *
          go_wp2
          go_round
          case rel => exact ⟨k + 1, p + 16, h16, by go_num, by have := HPK.out; omega, h8, by rw [HXN.out]; exact h9, hbel⟩
          case measure => simp [intOf]; omega
        · have hlj : (j : Int) < 128 := by omega
          have hlj2 : j < 128 := by omega
          have hlv : l.getD j 0 = bitP se j := by rw [HL.out, fillN_get _ _ _ _ (by rw [hpl]; omega), if_neg (by omega), polyL_get _ _ hlj2]
          have hc1 := h9.cellv j _ (by omega) hlv
          have hc2 := hx.cellv j _ (by omega) (polyL_get xe j hlj2)
          have hf := h9.frozen j
          have hb1 := bitP_lt se j
          have hb2 := bitP_lt xe j
          have hxx := u8_xor_nat (bitP se j) (bitP xe j) (by omega) (by omega)
          have HX := Lib.hid (show bits .xor .u8 ((bitP se j : Nat) : Int) ((bitP xe j : Nat) : Int) = ((orF2 se xe j : Nat) : Int) from hxx)
          clear hxx hlv
          have g9 := h9.lt
          have H8 := Lib.hid h8
          have H9 := Lib.hid h9
          have HXB := Lib.hid hx
          clear h8 h9 hx
          generalize bitP se j = v1 at *
          generalize bitP xe j = v2 at *
          go_wp2
          go_region
          go_wp2
          go_round
          case rel =>
            refine ⟨j + 1, l.set j (orF2 se xe j), by omega, by go_num, by rw [HL.out]; rfl, ?_, ?_, ?_, ?_⟩
            · exact H8.out.drew.other b9 j _ (by omega)
            · rw [HX.out]; exact H9.out.drew.set j _
            · exact HXB.out.drew.other b9 j _ (by omega)
            · exact Below.setCell hbel.drew hb9 _
          case measure => simp [intOf]; omega
end Go.Proofs.Ytnnoimikoddbcaa.Ref08
