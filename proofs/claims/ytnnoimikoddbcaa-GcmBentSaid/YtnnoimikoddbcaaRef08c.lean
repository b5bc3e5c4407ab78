/-
  The reference for products of blocks: the walk of Times.
  Conditions: the numbers are below 2^128.
-/
import Derived.Test.YtnnoimikoddbcaaRef08b
import Derived.Deep.CutRange
namespace Go.Proofs.Ytnnoimikoddbcaa.Ref08
open Go.ChangeShapes Go.WideShapes Go.ChangeAt Go.RowKit Go.Deep Go.Proofs.Ytnnoimikoddbcaa.Gf
open Go.Proofs.Ytnnoimikoddbcaa.Field (X mul one R)
open Go.Proofs.Ytnnoimikoddbcaa.Aes (byteF byteF_lt zeros zeros_length zeros_get)
def room (w : World) (a b o : List Nat) : World := (((w.alloc (.cells (nums .u8 a) 26)).alloc (.cells (nums .u8 b) 26)).alloc (.cells (nums .u8 (zeros 128)) 26)).alloc (.cells (nums .u8 o) 26)
def pushX (u : Xt) (o : Obj) : Xt := ⟨u.blocks.push o, u.draws⟩
theorem ext_alloc (w : World) (u : Xt) (o : Obj) : (ext w u).alloc o = ext w (pushX u o) := by
  simp [ext, World.alloc, pushX, -World.alloc_eq]
theorem getE {k : IntKind} {l : List Nat} {i : Nat} (hi : i < l.length) (v : Nat) (hv : l.getD i 0 = v) : ∀ h, (nums k l)[i]'h = .int k ((v : Nat) : Int) := fun h => by
  have := nums_getD k hi
  rw [Array.getElem?_eq_getElem h, hv] at this
  exact Option.some.inj this
def orF2 (o f n : Nat) : Nat := bitP o n ^^^ bitP f n
theorem orF2_end (o f : Nat) : fillN (orF2 o f) (polyL o) 128 = polyL (o ^^^ f) := by
  rw [fillN_full _ (polyL_length o), polyL_xor]; rfl
/-- What the second inner loop leaves. -/
def Shifted (f k : Nat) (l : List Nat) : Prop := l.length = 128 ∧ ∀ n, n < 128 → l.getD n 0 = if 1 ≤ n ∧ n < k then bitP f (n - 1) else 0
theorem shifted_next {f k : Nat} {l : List Nat} (h : Shifted f k l) (hk : 1 ≤ k) (hk2 : k < 128) : Shifted f (k + 1) (l.set k (bitP f (k - 1))) := by
  refine ⟨by simp [h.1], fun n hn => ?_⟩
  rw [getD_set _ _ _ _ (by rw [h.1]; omega)]
  by_cases e : n = k
  · rw [if_pos e, if_pos (by omega), e]
  · rw [if_neg e, h.2 n hn]
    by_cases e2 : 1 ≤ n ∧ n < k
    · rw [if_pos e2, if_pos (by omega)]
    · rw [if_neg e2, if_neg (by omega)]
theorem shifted_zero {f : Nat} {l : List Nat} (hf : f < 2 ^ 128) (h : Shifted f 128 l) (h0 : bitP f 127 = 0) : l = polyL (X f) := by
  apply list_ext (by rw [h.1, polyL_length])
  intro n hn
  rw [h.1] at hn
  rw [h.2 n hn, polyL_get _ _ hn, bitP_X hf hn, shF, h0]
  by_cases e : n = 0
  · subst e; simp
  · rw [if_pos (by omega), if_neg e]; simp
theorem shifted_one {f : Nat} {l : List Nat} (hf : f < 2 ^ 128) (h : Shifted f 128 l) (h0 : bitP f 127 = 1) :
    (((l.set 0 1).set 1 (bitP f 0 ^^^ 1)).set 2 (bitP f 1 ^^^ 1)).set 7 (bitP f 6 ^^^ 1) = polyL (X f) := by
  apply list_ext (by simp [h.1, polyL_length])
  intro n hn
  simp only [List.length_set, h.1] at hn
  rw [polyL_get _ _ hn, bitP_X hf hn, shF, h0]
  rw [getD_set _ _ _ _ (by simp [h.1]), getD_set _ _ _ _ (by simp [h.1]), getD_set _ _ _ _ (by simp [h.1]), getD_set _ _ _ _ (by simp [h.1]), h.2 n hn]
  by_cases e7 : n = 7
  · subst e7; simp
  · by_cases e2 : n = 2
    · subst e2; simp
    · by_cases e1 : n = 1
      · subst e1; simp
      · by_cases e0 : n = 0
        · subst e0; simp
        · rw [if_neg e7, if_neg e2, if_neg e1, if_neg e0, if_pos (by omega), if_neg e0, if_neg (by omega)]; simp
set_option maxHeartbeats 3200000 in
set_option maxRecDepth 100000 in
theorem Times_any (a b : Nat) (w : World) (_ha : a < 2 ^ 128) (hb : b < 2 ^ 128) : Calls Try.prog 11 #[.agg (nums .u8 (polyL a)), .agg (nums .u8 (polyL b))] w fun r w' => r = .returned (.agg (nums .u8 (polyL (mul a b)))) ∧ Below w.heap.size w w' := by
  go_enter Try.func11, Try.ntmps11
  go_wp2
  rw [show Try.zeroCells26 = nums .u8 (zeros 128) by kernel_rfl]
  go_loopw [6] (fun s6 wr => ∃ (i : Nat) (u : Xt) (f o : Nat), i ≤ 128 ∧ s6 = .int .i64 i ∧ f = Field.Xn i b ∧ f < 2 ^ 128 ∧ o = Field.mulN a b i ∧ wr = ext (room w (polyL a) (polyL f) (polyL o)) u) (fun s _ => 128 - (intOf s).toNat)
  case atStart => exact ⟨0, ⟨#[], w.drawn⟩, b, 0, by omega, rfl, rfl, hb, rfl, by rw [show polyL 0 = zeros 128 by decide]; rfl⟩
  case round =>
    obtain ⟨i, u, f, o, hi, rfl, hf, hfl, ho, rfl⟩ := hrel
    have HF := Lib.hid hf
    have HFL := Lib.hid hfl
    have HO := Lib.hid ho
    clear hf hfl ho
    have hpa := polyL_length a
    have hpf := polyL_length f
    have hpo := polyL_length o
    unfold room
    by_cases h128 : i = 128
    · subst h128
      go_upto_region 21 with fail
      refine wp_keep_row rfl rfl 58 rfl rfl 26 _ _ _ rfl rfl (w.heap.size + 1 + 1 + 1) (w.heap.size + 1 + 1) (nums .u8 (polyL o)) (nums .u8 (zeros 128)) 26 26 (.array 128 5) rfl (heap_ext (heap_at (by simp))) (heap_ext (heap_under (heap_at (by simp)))) Try.underlying26 rfl (by rw [nums_size, hpo]; kernel_rfl) (by rw [nums_size, nums_size, hpo, zeros_length]) (nums_oneCell _ _) rfl rfl (by rw [setRow_ext _ _ _ _ (by simp), setRow_under _ _ _ _ (by simp), setRow_at (by simp)]) ?_
      go_wp2
      refine post_row (w.heap.size + 1 + 1) Try.results11 26 (nums .u8 (polyL o)) (.array 128 5) rfl (heap_ext (heap_under (heap_at (by simp)))) Try.underlying26 rfl (by rw [nums_size, hpo]; kernel_rfl) rfl ⟨by rw [HO.out]; rfl, by ((repeat' (with_reducible first | exact Below.refl _ _ | assumption | refine Below.drew ?_ | refine below_drewN ?_ _ | refine Below.setCell ?_ ?_ _ | refine Below.alloc ?_ ?_ _ | refine Below.ext ?_ ?_ _ | refine Below.trans ?_ (Below.mono ‹_› ?_))) <;> first | omega | (simp; done) | (simp; omega))⟩
    · have hlt : (i : Int) < 128 := by omega
      have hlt2 : i < 128 := by omega
      have hga := getE (k := .u8) (l := polyL a) (i := i) (by omega) _ (polyL_get a i hlt2)
      have hbl := bitP_lt a i
      have hnext : Field.mulN a b (i + 1) = o ^^^ Field.iff (a.testBit (127 - i)) f := by rw [HO.out, HF.out]; rfl
      have hba : bitP a i = if a.testBit (127 - i) then 1 else 0 := rfl
      have HN := Lib.hid hnext
      have HBA := Lib.hid hba
      clear hnext hba
      go_upto_if 17 with fail
      go_cut [7] from 16 to 30 (fun s7 wx => ∃ (u : Xt), wx = ext (room w (polyL a) (polyL f) (polyL (Field.mulN a b (i + 1)))) u)
      case first =>
        cases hcb : a.testBit (127 - i)
        · have h0 : bitP a i = 0 := by rw [HBA.out, hcb]; rfl
          have hsame : Field.mulN a b (i + 1) = o := by rw [HN.out, hcb]; simp [Field.iff]
          rw [h0]
          have HSM := Lib.hid hsame
          clear hga hsame h0 hcb
          go_wp2
          go_meet
          case rel => exact ⟨u, by rw [HSM.out]; rfl⟩
        · have h0 : bitP a i = 1 := by rw [HBA.out, hcb]; rfl
          have hsame : Field.mulN a b (i + 1) = o ^^^ f := by rw [HN.out, hcb]; simp [Field.iff]
          rw [h0]
          have HSM := Lib.hid hsame
          clear hga hsame h0 hcb
          go_wp2
          go_loopw [7] (fun s7 wr => ∃ (k : Nat) (l : List Nat) (u : Xt), k ≤ 128 ∧ s7 = .int .i64 k ∧ l = fillN (orF2 o f) (polyL o) k ∧ l.length = 128 ∧ wr = ext (room w (polyL a) (polyL f) l) u) (fun s _ => 128 - (intOf s).toNat)
          case atStart => exact ⟨0, polyL o, u, by omega, rfl, rfl, hpo, rfl⟩
          case round =>
            clear u
            obtain ⟨k, l, u, hk, rfl, hl, hll, rfl⟩ := hrel
            have HL := Lib.hid hl
            clear hl
            unfold room
            by_cases hk128 : k = 128
            · subst hk128
              have hfin : l = polyL (o ^^^ f) := by rw [HL.out, orF2_end]
              have HFIN := Lib.hid hfin
              clear hfin
              go_wp2
              go_meet
              case rel => exact ⟨u, by rw [HSM.out, ← HFIN.out]; rfl⟩
            · have hlk : (k : Int) < 128 := by omega
              have hlk2 : k < 128 := by omega
              have hlv : l.getD k 0 = bitP o k := by rw [HL.out, fillN_get _ _ _ _ (by rw [hpo]; omega), if_neg (by omega), polyL_get _ _ hlk2]
              have hg1 := getE (k := .u8) (l := l) (i := k) (by omega) _ hlv
              have hg2 := getE (k := .u8) (l := polyL f) (i := k) (by omega) _ (polyL_get f k hlk2)
              have hb1 := bitP_lt o k
              have hb2 := bitP_lt f k
              have hx := u8_xor_nat (bitP o k) (bitP f k) (by omega) (by omega)
              have HX := Lib.hid (show bits .xor .u8 ((bitP o k : Nat) : Int) ((bitP f k : Nat) : Int) = ((orF2 o f k : Nat) : Int) from hx)
              clear hx hlv
              generalize bitP o k = v1 at *
              generalize bitP f k = v2 at *
              go_wp2
              go_region
              go_wp2
              go_round
              case rel =>
                refine ⟨k + 1, l.set k (orF2 o f k), bump u, by omega, by go_num, by rw [HL.out]; rfl, by simp [hll], ?_⟩
                rw [HX.out, nums_set]
              case measure => simp [intOf]; omega
      case rest =>
        clear u hga
        obtain ⟨u, rfl⟩ := hcut
        have hpn := polyL_length (Field.mulN a b (i + 1))
        unfold room
        go_wp2
        rw [show Try.zeroCells26 = nums .u8 (zeros 128) by kernel_rfl]
        have HON := Lib.hid (show Field.mulN a b (i + 1) = Field.mulN a b (i + 1) from rfl)
        have hbf := bitP_lt f 127
        generalize hgo : Field.mulN a b (i + 1) = o2 at *
        have HGO := Lib.hid hgo
        clear hgo HON HN
        go_loopw [9] (fun s9 wr => ∃ (k : Nat) (l : List Nat), 1 ≤ k ∧ k ≤ 128 ∧ s9 = .int .i64 k ∧ Shifted f k l ∧ wr = (ext (room w (polyL a) (polyL f) (polyL o2)) u).alloc (.cells (nums .u8 l) 26)) (fun s _ => 128 - (intOf s).toNat)
        case atStart => exact ⟨1, zeros 128, by omega, by omega, rfl, ⟨zeros_length 128, fun n _ => by rw [zeros_get, if_neg (by omega)]⟩, rfl⟩
        case round =>
          obtain ⟨k, l, hk1, hk, rfl, hl, rfl⟩ := hrel
          have hll := hl.1
          have HL := Lib.hid hl
          clear hl
          unfold room
          by_cases hk128 : k = 128
          · subst hk128
            have hg127 := getE (k := .u8) (l := polyL f) (i := 127) (by omega) _ (polyL_get f 127 (by omega))
            have hg0 := getE (k := .u8) (l := l) (i := 0) (by omega) 0 (by rw [HL.out.2 0 (by omega), if_neg (by omega)])
            have hg1 := getE (k := .u8) (l := l) (i := 1) (by omega) (bitP f 0) (by rw [HL.out.2 1 (by omega), if_pos (by omega)])
            have hg2 := getE (k := .u8) (l := l) (i := 2) (by omega) (bitP f 1) (by rw [HL.out.2 2 (by omega), if_pos (by omega)])
            have hg7 := getE (k := .u8) (l := l) (i := 7) (by omega) (bitP f 6) (by rw [HL.out.2 7 (by omega), if_pos (by omega)])
            have hz0 := shifted_zero HFL.out HL.out
            have hz1 := shifted_one HFL.out HL.out
            have hxl := Field.X_lt HFL.out
            have HXL := Lib.hid hxl
            have hpx := polyL_length (X f)
            have hfn : Field.Xn (i + 1) b = X f := by rw [HF.out]; rfl
            have HFN := Lib.hid hfn
            clear hxl hfn
            rcases Nat.lt_or_ge (bitP f 127) 1 with hc | hc
            · have hc0 : bitP f 127 = 0 := by omega
              have hlx := hz0 hc0
              have HLX := Lib.hid hlx
              rw [hc0] at hg127
              clear hz0 hz1 hlx hc hc0 hbf
              go_upto_region 20 with fail
              rw [HLX.out]
              refine wp_keep_row rfl rfl 57 rfl rfl 26 _ _ _ rfl rfl (w.heap.size + 1 + 1 + 1 + 1 + more u) (w.heap.size + 1) (nums .u8 (polyL (X f))) (nums .u8 (polyL f)) 26 26 (.array 128 5) rfl (heap_at (by simp)) (heap_under (heap_ext (heap_under (heap_under (heap_at (by simp)))))) Try.underlying26 rfl (by rw [nums_size, hpx]; kernel_rfl) (by rw [nums_size, nums_size, hpf, hpx]) (nums_oneCell _ _) rfl rfl (by rw [setRow_under _ _ _ _ (by simp; omega), setRow_ext _ _ _ _ (by simp), setRow_under _ _ _ _ (by simp), setRow_under _ _ _ _ (by simp), setRow_at (by simp)]) ?_
              go_wp2
              go_round
              case rel => exact ⟨i + 1, pushX u _, X f, o2, by omega, by go_num, HFN.out.symm, HXL.out, HGO.out.symm, by rw [ext_alloc]⟩
              case measure => simp [intOf]; omega
            · have hc0 : bitP f 127 = 1 := by omega
              have hlx := hz1 hc0
              have hb1 := bitP_lt f 0
              have hb2 := bitP_lt f 1
              have hb7 := bitP_lt f 6
              have hx1 : bits .xor .u8 ((bitP f 0 : Nat) : Int) 1 = ((bitP f 0 ^^^ 1 : Nat) : Int) := u8_xor_nat (bitP f 0) 1 (by omega) (by omega)
              have hx2 : bits .xor .u8 ((bitP f 1 : Nat) : Int) 1 = ((bitP f 1 ^^^ 1 : Nat) : Int) := u8_xor_nat (bitP f 1) 1 (by omega) (by omega)
              have hx7 : bits .xor .u8 ((bitP f 6 : Nat) : Int) 1 = ((bitP f 6 ^^^ 1 : Nat) : Int) := u8_xor_nat (bitP f 6) 1 (by omega) (by omega)
              rw [hc0] at hg127
              have HLX := Lib.hid hlx
              clear hz0 hz1 hlx hc hc0 hbf
              have HX1 := Lib.hid hx1
              have HX2 := Lib.hid hx2
              have HX7 := Lib.hid hx7
              clear hx1 hx2 hx7
              go_upto_region 20 with fail
              rw [HX1.out, HX2.out, HX7.out, show (nums .u8 l).setIfInBounds 0 (.int .u8 1) = nums .u8 (l.set 0 1) from nums_set .u8 l 0 1, nums_set, nums_set, nums_set, HLX.out]
              refine wp_keep_row rfl rfl 57 rfl rfl 26 _ _ _ rfl rfl (w.heap.size + 1 + 1 + 1 + 1 + more u) (w.heap.size + 1) (nums .u8 (polyL (X f))) (nums .u8 (polyL f)) 26 26 (.array 128 5) rfl (heap_at (by simp)) (heap_under (heap_ext (heap_under (heap_under (heap_at (by simp)))))) Try.underlying26 rfl (by rw [nums_size, hpx]; kernel_rfl) (by rw [nums_size, nums_size, hpf, hpx]) (nums_oneCell _ _) rfl rfl (by rw [setRow_under _ _ _ _ (by simp; omega), setRow_ext _ _ _ _ (by simp), setRow_under _ _ _ _ (by simp), setRow_under _ _ _ _ (by simp), setRow_at (by simp)]) ?_
              go_wp2
              go_round
              case rel => exact ⟨i + 1, pushX u _, X f, o2, by omega, by go_num, HFN.out.symm, HXL.out, HGO.out.symm, by rw [ext_alloc]⟩
              case measure => simp [intOf]; omega
          · have hlk : (k : Int) < 128 := by omega
            have hlk2 : k < 128 := by omega
            have hk1i : (1 : Int) ≤ (k : Int) := by omega
            have hgf := getE (k := .u8) (l := polyL f) (i := k - 1) (by omega) _ (polyL_get f (k - 1) (by omega))
            have hgq := nums_getD .u8 (l := polyL f) (i := k - 1) (by omega)
            rw [polyL_get f (k - 1) (by omega)] at hgq
            have hgl := getE (k := .u8) (l := l) (i := k) (by omega) _ rfl
            have hnx := shifted_next HL.out hk1 hlk2
            have HNX := Lib.hid hnx
            clear hnx
            generalize bitP f (k - 1) = v at *
            go_wp2
            go_round
            case rel =>
              refine ⟨k + 1, l.set k v, by omega, by omega, by go_num, HNX.out, ?_⟩
              rw [nums_set]
            case measure => simp [intOf]; omega
end Go.Proofs.Ytnnoimikoddbcaa.Ref08
