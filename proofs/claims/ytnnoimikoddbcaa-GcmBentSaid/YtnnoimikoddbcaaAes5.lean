/-
  AES: the walk of word and tables.
  Conditions: bytes.
-/
import Derived.Test.YtnnoimikoddbcaaAes4
namespace Go.Proofs.Ytnnoimikoddbcaa.Aes
open Go.ChangeShapes Go.WideShapes Go.ChangeAt Go.RowKit Go.Deep
set_option maxRecDepth 100000 in
theorem word_any (T wd : List Nat) (cb : Nat) (w : World) (hs : wd.length = 4) (hsb : Bytes wd) (hT : TabAt w cb 2 T) : Calls Try.prog 72 #[.pointer (some ⟨cb, 0, none⟩), .agg (nums .u8 wd)] w fun e w' => e = .returned (.agg (nums .u8 (tab (thrF T wd) 4))) ∧ Below w.heap.size w w' := by
  have HS := Lib.hid hs
  have htb := hT.1
  have HT := Lib.hid hT.2
  clear hT
  have hb0 := nums_getD .u8 (l := wd) (i := 0) (by omega)
  have hb1 := nums_getD .u8 (l := wd) (i := 1) (by omega)
  have hb2 := nums_getD .u8 (l := wd) (i := 2) (by omega)
  have hb3 := nums_getD .u8 (l := wd) (i := 3) (by omega)
  go_enter Try.func72, Try.ntmps72
  go_wp2
  rw [arr4 (nums .u8 wd) (by rw [nums_size, hs])]
  clear hb0 hb1 hb2 hb3
  go_loopw [8] (fun s8 wr => ∃ (k : Nat) (l : List Nat) (u : Xt), k ≤ 4 ∧ s8 = .int .i64 k ∧ l = fillN (thrF T wd) wd k ∧ l.length = 4 ∧ wr = ext ((w.alloc (.cells (nums .u8 l) 93)).alloc (.cells (nums .u8 (zeros 4)) 93)) u) (fun s _ => 4 - (intOf s).toNat)
  case atStart => exact ⟨0, wd, ⟨#[], w.drawn⟩, by omega, rfl, rfl, hs, rfl⟩
  case round =>
    obtain ⟨k, l, u, hk, rfl, hl, hll, rfl⟩ := hrel
    have HL := Lib.hid hl
    clear hl
    by_cases h4 : k = 4
    · subst h4
      go_upto_region 6 with fail
      refine wp_keep_last rfl rfl 21 rfl rfl 93 _ _ _ rfl rfl w.heap.size (nums .u8 l) _ _ _ (.array 4 5) rfl (heap_under (heap_alloc_last w _)) Try.underlying93 rfl (by rw [nums_size, hll]; kernel_rfl) (by rw [nums_size, nums_size, hll]; rfl) (nums_oneCell _ _) (w.heap.size + 1) (by simp) rfl rfl ?_
      go_wp2
      refine post_last (w.heap.size + 1) (by simp) Try.results72 93 (nums .u8 l) (.array 4 5) rfl Try.underlying93 rfl (by rw [nums_size, hll]; kernel_rfl) rfl ⟨?_, by ((repeat' (with_reducible first | exact Below.refl _ _ | assumption | refine Below.drew ?_ | refine below_drewN ?_ _ | refine Below.setCell ?_ ?_ _ | refine Below.alloc ?_ ?_ _ | refine Below.ext ?_ ?_ _ | refine Below.trans ?_ (Below.mono ‹_› ?_))) <;> first | omega | (simp; done) | (simp; omega))⟩
      rw [HL.out, fillN_full _ HS.out]
    · have hlk : (k : Int) < 4 := by omega
      have hlk' : k < 4 := by omega
      have hg := nums_getD .u8 (l := l) (i := k) (by omega)
      have hrow := nums_getD .u8 (l := wd) (i := k) (by omega)
      have hx := hsb k
      have hb := HT.out (wd.getD k 0) hx
      have hval : T.getD (wd.getD k 0) 0 = thrF T wd k := rfl
      rw [hval] at hb
      clear hval
      generalize hv : thrF T wd k = v at *
      have HV := Lib.hid hv
      clear hv
      generalize wd.getD k 0 = x at *
      have hx' : (x : Int) < 256 := by omega
      have hidx := fun W => index_nums (P := Try.prog) W 93 5 4 k .u8 .i64 (nums .u8 wd) _ Try.underlying93 Try.underlying5 (by kernel_rfl) hlk' hrow
      clear hrow
      go_wp2
      go_round
      case rel =>
        refine ⟨k + 1, l.set k v, u, by omega, by go_num, ?_, by simp [hll], ?_⟩
        · rw [← HV.out, HL.out]; rfl
        · rw [nums_set]
      case measure => simp [intOf]; omega
theorem zeros_length (n : Nat) : (zeros n).length = n := List.length_replicate
theorem zeros_get (n i : Nat) : (zeros n).getD i 0 = 0 := by
  unfold zeros
  rw [List.getD_eq_getElem?_getD, List.getElem?_replicate]
  split <;> rfl
def pw : Nat → Nat
  | 0 => 1
  | n + 1 => mulB (pw n) 3
def qw : Nat → Nat
  | 0 => 1
  | n + 1 => mulB (qw n) 246
theorem pw_lt : ∀ n, pw n < 256
  | 0 => by unfold pw; omega
  | n + 1 => mulB_lt 3 (pw_lt n)
theorem qw_lt : ∀ n, qw n < 256
  | 0 => by unfold qw; omega
  | n + 1 => mulB_lt 246 (qw_lt n)
/-- How bytes are substituted, n powers laid. -/
def subL : Nat → List Nat
  | 0 => (zeros 256).set 0 (aff 0)
  | n + 1 => (subL n).set (pw (n + 1)) (aff (qw (n + 1)))
theorem subL_length : ∀ n, (subL n).length = 256
  | 0 => by rw [subL, List.length_set, zeros_length]
  | n + 1 => by simp [subL, subL_length n]
theorem subL_bytes : ∀ n, Bytes (subL n)
  | 0 => fun i => by
    unfold subL
    rw [getD_set _ _ _ _ (by rw [zeros_length]; omega)]
    split
    · exact aff_lt (by omega)
    · rw [zeros_get]; omega
  | n + 1 => fun i => by
    unfold subL
    rw [getD_set _ _ _ _ (by rw [subL_length]; exact pw_lt _)]
    split
    · exact aff_lt (qw_lt _)
    · exact subL_bytes n i
/-- The table. -/
def subT : List Nat := subL 255
theorem subT_length : subT.length = 256 := subL_length 255
theorem subT_bytes : Bytes subT := subL_bytes 255
def backL : Nat → List Nat
  | 0 => zeros 256
  | n + 1 => (backL n).set (subT.getD n 0) n
theorem backL_length : ∀ n, (backL n).length = 256
  | 0 => zeros_length 256
  | n + 1 => by simp [backL, backL_length n]
def backT : List Nat := backL 256
theorem backT_length : backT.length = 256 := backL_length 256
attribute [local irreducible] wpList in
set_option maxHeartbeats 1600000 in
set_option maxRecDepth 100000 in
theorem tables_any (w : World) : Calls Try.prog 55 #[] w fun e w' => e = .returned (.tuple #[.agg (nums .u8 subT), .agg (nums .u8 backT)]) ∧ Below w.heap.size w w' := by
  have HA := Lib.hid affine_any
  have HM := Lib.hid Times_any
  go_enter Try.func55, Try.ntmps55
  go_wp2_with fail
  rw [show Try.zeroCells87 = nums .u8 (zeros 256) by kernel_rfl]
  refine Calls.mono (HA.out 0 _ (by omega)) ?_
  rintro _ _ ⟨rfl, rfl⟩
  have hz := nums_getD .u8 (l := zeros 256) (i := 0) (by rw [zeros_length]; omega)
  go_wp2_with fail
  go_loopw [2, 3, 8] (fun s2 s3 s8 wr => ∃ i : Nat, i ≤ 255 ∧ s8 = .int .i64 i ∧ s2 = .int .u8 (pw i) ∧ s3 = .int .u8 (qw i) ∧ wr = (w.alloc (.cells (nums .u8 (subL i)) 87)).alloc (.cells (nums .u8 (zeros 256)) 87)) (fun _ _ s _ => 255 - (intOf s).toNat)
  case atStart => exact ⟨0, by omega, rfl, rfl, rfl, by rw [nums_set]; rfl⟩
  case round =>
    clear hz
    obtain ⟨i, hi, rfl, rfl, rfl, rfl⟩ := hrel
    by_cases h255 : i = 255
    · subst h255
      go_upto_region 8 with fail
      apply wp_region_lit
      refine wpList_load_rowTo rfl (some 19) rfl 87 _ rfl w.heap.size rfl (nums .u8 subT) 87 (0, 0) (heap_under (heap_alloc_last w _)) (.array 256 5) Try.underlying87 rfl (by rw [nums_size, subT_length]; kernel_rfl) ?_
      rw [show subL 255 = subT from rfl]
      have hst := subT_length
      have hsb := subT_bytes
      generalize hsub : subT = S at *
      have HSUB := Lib.hid hsub
      clear hsub
      go_wp2
      go_loopw [20] (fun s20 wr => ∃ k : Nat, k ≤ 256 ∧ s20 = .int .i64 k ∧ wr = (w.alloc (.cells (nums .u8 S) 87)).alloc (.cells (nums .u8 (backL k)) 87)) (fun s _ => 256 - (intOf s).toNat)
      case atStart => exact ⟨0, by omega, rfl, rfl⟩
      case round =>
        obtain ⟨k, hk, rfl, rfl⟩ := hrel
        by_cases h256 : k = 256
        · subst h256
          rw [show backL 256 = backT from rfl]
          have hbl := backT_length
          go_upto_region 13 with fail
          have hA : ((w.alloc (.cells (nums .u8 S) 87)).alloc (.cells (nums .u8 backT) 87)).heap[w.heap.size]? = some (.cells (nums .u8 S) 87 (0, 0)) := heap_under (heap_alloc_last w _)
          have hB : ((w.alloc (.cells (nums .u8 S) 87)).alloc (.cells (nums .u8 backT) 87)).heap[w.heap.size + 1]? = some (.cells (nums .u8 backT) 87 (0, 0)) := heap_at (by simp)
          have hiA : (Try.prog.info? 87).map (·.size) = some (nums .u8 S).size := by rw [nums_size, hst]; kernel_rfl
          have hiB : (Try.prog.info? 87).map (·.size) = some (nums .u8 backT).size := by rw [nums_size, hbl]; kernel_rfl
          have hoA : (nums .u8 S).all (·.oneCell') = true := nums_oneCell _ _
          have hoB : (nums .u8 backT).all (·.oneCell') = true := nums_oneCell _ _
          have HR := Lib.hid Try.results55
          generalize hW : ((w.alloc (.cells (nums .u8 S) 87)).alloc (.cells (nums .u8 backT) 87)) = W at *
          have HW := Lib.hid hW
          clear hW
          generalize hcb : nums .u8 backT = cb at *
          generalize hcs : nums .u8 S = cs at *
          have HC := Lib.hid (show Ending.returned (.tuple #[.agg cs, .agg cb]) = Ending.returned (.tuple #[.agg (nums .u8 subT), .agg (nums .u8 backT)]) by rw [← hcb, ← hcs, HSUB.out])
          clear hcb hcs
          refine wp_region_any (by kernel_rfl) ?_
          change wpAny _ _ _ _ _ _ _ (World.drew _)
          refine wpAny_ready (rs := [0, 1]) (by kernel_rfl) (by simp) ?_
          refine AllReady.cons rfl (fun K hK => ?_) ?_
          · refine step_load_row rfl (some 29) rfl 87 (.tmp 0) rfl w.heap.size rfl cs 87 (0, 0) hA (.array 256 5) Try.underlying87 rfl hiA ?_
            refine hK _ _ ?_
            clear hK K
            refine wpAny_ready (rs := [1, 2]) (by kernel_rfl) (by simp) ?_
            refine AllReady.cons rfl (fun K hK => ?_) ?_
            · refine step_load_row rfl (some 30) rfl 87 (.tmp 1) rfl (w.heap.size + 1) rfl cb 87 (0, 0) hB (.array 256 5) Try.underlying87 rfl hiB ?_
              refine hK _ _ ?_
              clear hK K
              refine wpAny_ready (rs := [2]) (by kernel_rfl) (by simp) ?_
              refine AllReady.cons rfl (fun K hK => ?_) AllReady.nil
              refine step_store_same rfl 87 (.tmp 0) (.tmp 29) rfl rfl w.heap.size cs rfl rfl 87 hA hiA hoA ?_
              refine hK _ _ ?_
              clear hK K
              refine wpAny_ready (rs := [3]) (by kernel_rfl) (by simp) ?_
              refine AllReady.cons rfl (fun K hK => ?_) AllReady.nil
              refine step_store_same rfl 87 (.tmp 1) (.tmp 30) rfl rfl (w.heap.size + 1) cb rfl rfl 87 hB hiB hoB ?_
              refine hK _ _ ?_
              clear hK K
              refine wpAny_done (by kernel_rfl) ?_ _
              go_wp2
              refine bodyPost_ret (results_two_rows HR.out _ _ w.heap.size (w.heap.size + 1) 87 87 cs cb (0, 0) (0, 0) (.array 256 5) rfl rfl hA hB Try.underlying87 rfl hiA hiB) rfl ⟨HC.out, ?_⟩
              rw [← HW.out]
              exact by ((repeat' (with_reducible first | exact Below.refl _ _ | assumption | refine Below.drew ?_ | refine below_drewN ?_ _ | refine Below.setCell ?_ ?_ _ | refine Below.alloc ?_ ?_ _ | refine Below.ext ?_ ?_ _ | refine Below.trans ?_ (Below.mono ‹_› ?_))) <;> first | omega | (simp; done) | (simp; omega))
            · refine AllReady.cons rfl (fun K hK => ?_) AllReady.nil
              refine step_store_same rfl 87 (.tmp 0) (.tmp 29) rfl rfl w.heap.size cs rfl rfl 87 hA hiA hoA ?_
              refine hK _ _ ?_
              clear hK K
              refine wpAny_ready (rs := [1]) (by kernel_rfl) (by simp) ?_
              refine AllReady.cons rfl (fun K hK => ?_) AllReady.nil
              refine step_load_row rfl (some 30) rfl 87 (.tmp 1) rfl (w.heap.size + 1) rfl cb 87 (0, 0) hB (.array 256 5) Try.underlying87 rfl hiB ?_
              refine hK _ _ ?_
              clear hK K
              refine wpAny_ready (rs := [3]) (by kernel_rfl) (by simp) ?_
              refine AllReady.cons rfl (fun K hK => ?_) AllReady.nil
              refine step_store_same rfl 87 (.tmp 1) (.tmp 30) rfl rfl (w.heap.size + 1) cb rfl rfl 87 hB hiB hoB ?_
              refine hK _ _ ?_
              clear hK K
              refine wpAny_done (by kernel_rfl) ?_ _
              go_wp2
              refine bodyPost_ret (results_two_rows HR.out _ _ w.heap.size (w.heap.size + 1) 87 87 cs cb (0, 0) (0, 0) (.array 256 5) rfl rfl hA hB Try.underlying87 rfl hiA hiB) rfl ⟨HC.out, ?_⟩
              rw [← HW.out]
              exact by ((repeat' (with_reducible first | exact Below.refl _ _ | assumption | refine Below.drew ?_ | refine below_drewN ?_ _ | refine Below.setCell ?_ ?_ _ | refine Below.alloc ?_ ?_ _ | refine Below.ext ?_ ?_ _ | refine Below.trans ?_ (Below.mono ‹_› ?_))) <;> first | omega | (simp; done) | (simp; omega))
          · refine AllReady.cons rfl (fun K hK => ?_) AllReady.nil
            refine step_load_row rfl (some 30) rfl 87 (.tmp 1) rfl (w.heap.size + 1) rfl cb 87 (0, 0) hB (.array 256 5) Try.underlying87 rfl hiB ?_
            refine hK _ _ ?_
            clear hK K
            refine wpAny_ready (rs := [0]) (by kernel_rfl) (by simp) ?_
            refine AllReady.cons rfl (fun K hK => ?_) AllReady.nil
            refine step_load_row rfl (some 29) rfl 87 (.tmp 0) rfl w.heap.size rfl cs 87 (0, 0) hA (.array 256 5) Try.underlying87 rfl hiA ?_
            refine hK _ _ ?_
            clear hK K
            refine wpAny_ready (rs := [2]) (by kernel_rfl) (by simp) ?_
            refine AllReady.cons rfl (fun K hK => ?_) AllReady.nil
            refine step_store_same rfl 87 (.tmp 0) (.tmp 29) rfl rfl w.heap.size cs rfl rfl 87 hA hiA hoA ?_
            refine hK _ _ ?_
            clear hK K
            refine wpAny_ready (rs := [3]) (by kernel_rfl) (by simp) ?_
            refine AllReady.cons rfl (fun K hK => ?_) AllReady.nil
            refine step_store_same rfl 87 (.tmp 1) (.tmp 30) rfl rfl (w.heap.size + 1) cb rfl rfl 87 hB hiB hoB ?_
            refine hK _ _ ?_
            clear hK K
            refine wpAny_done (by kernel_rfl) ?_ _
            go_wp2
            refine bodyPost_ret (results_two_rows HR.out _ _ w.heap.size (w.heap.size + 1) 87 87 cs cb (0, 0) (0, 0) (.array 256 5) rfl rfl hA hB Try.underlying87 rfl hiA hiB) rfl ⟨HC.out, ?_⟩
            rw [← HW.out]
            exact by ((repeat' (with_reducible first | exact Below.refl _ _ | assumption | refine Below.drew ?_ | refine below_drewN ?_ _ | refine Below.setCell ?_ ?_ _ | refine Below.alloc ?_ ?_ _ | refine Below.ext ?_ ?_ _ | refine Below.trans ?_ (Below.mono ‹_› ?_))) <;> first | omega | (simp; done) | (simp; omega))
        · have hlk : (k : Int) < 256 := by omega
          have hlk' : k < 256 := by omega
          have hrow := nums_getD .u8 (l := S) (i := k) (by omega)
          have hx := hsb k
          have hz := nums_getD .u8 (l := backL k) (i := S.getD k 0) (by rw [backL_length]; omega)
          have hn : backL (k + 1) = (backL k).set (S.getD k 0) k := by rw [← HSUB.out]; rfl
          have HN := Lib.hid hn
          clear hn
          have hm : (k : Int) % 256 = (k : Int) := by omega
          generalize S.getD k 0 = x at *
          have hx' : (x : Int) < 256 := by omega
          have hidx := fun W => index_nums (P := Try.prog) W 87 5 256 k .u8 .i64 (nums .u8 S) _ Try.underlying87 Try.underlying5 (by kernel_rfl) hlk' hrow
          clear hrow
          go_wp2
          go_round
          case rel => exact ⟨k + 1, by omega, by go_num, by rw [HN.out, ← nums_set]⟩
          case measure => simp [intOf]; omega
    · have hlt : (i : Int) < 255 := by omega
      have hp := pw_lt i
      have hq := qw_lt i
      have hp1 := pw_lt (i + 1)
      have hq1 := qw_lt (i + 1)
      have hsl := subL_length i
      have hM1 := fun W => HM.out (pw i) 3 W hp (by omega)
      have hM2 := fun W => HM.out (qw i) 246 W hq (by omega)
      have hA1 := fun W => HA.out (qw (i + 1)) W hq1
      have hz := nums_getD .u8 (l := subL i) (i := pw (i + 1)) (by omega)
      have hs : subL (i + 1) = (subL i).set (pw (i + 1)) (aff (qw (i + 1))) := rfl
      have HSN := Lib.hid hs
      rw [show mulB (pw i) 3 = pw (i + 1) from rfl] at hM1
      rw [show mulB (qw i) 246 = qw (i + 1) from rfl] at hM2
      have H1 := Lib.hid hM1
      have H2 := Lib.hid hM2
      have H3 := Lib.hid hA1
      clear hM1 hM2 hA1 hs hq1
      have hp1' : ((pw (i + 1) : Nat) : Int) < 256 := by omega
      generalize hpd : pw (i + 1) = p at *
      generalize hqd : qw (i + 1) = q at *
      have HP := Lib.hid hpd
      have HQ := Lib.hid hqd
      clear hpd hqd
      go_wp2_with fail
      refine Calls.mono (H1.out _) ?_
      rintro _ _ ⟨rfl, rfl⟩
      go_wp2_with fail
      refine Calls.mono (H2.out _) ?_
      rintro _ _ ⟨rfl, rfl⟩
      go_wp2_with fail
      refine Calls.mono (H3.out _) ?_
      rintro _ _ ⟨rfl, rfl⟩
      go_wp2
      go_round
      case rel => exact ⟨i + 1, by omega, by go_num, by rw [HP.out], by rw [HQ.out], by rw [HSN.out, nums_set]⟩
      case measure => simp [intOf]; omega
end Go.Proofs.Ytnnoimikoddbcaa.Aes
