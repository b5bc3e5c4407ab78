/-
  The walk of gcm.filled and gcm.Hash.
  Conditions: named at each.
-/
import Derived.Test.YtlbpodddokhmaaaGreatGf7
import Derived.Test.YtlbpodddokhmaaaGreatBld
namespace Go.Proofs.YtlbpodddokhmaaaGreat.Gf
open Go.ChangeShapes Go.WideShapes Go.ChangeAt Go.RowKit Go.Deep
open Go.Proofs.YtlbpodddokhmaaaGreat.Field (X mul one R)
open Go.Proofs.YtlbpodddokhmaaaGreat.Aes (byteF byteF_lt xor_lt)
/-- Noughts. -/
def Z (n : Nat) : List UInt8 := List.replicate n 0
theorem Z_length (n : Nat) : (Z n).length = n := List.length_replicate
theorem repeat_Z (c : Nat) : Lib.repeatL [0] c = Z c := by
  unfold Z
  induction c with
  | zero => rfl
  | succ n ih => simp [Lib.repeatL, ih, List.replicate_succ]
theorem Repeat_any (c : Nat) (w : World) (hc : c ≤ 1000) : Calls Tryz.prog 93 #[.string ⟨#[0]⟩, .int .i64 c] w fun e w' => e = .returned (.string (B (Z c))) ∧ Below w.heap.size w w' := by
  have h := Tryz.strings_Repeat ⟨#[0]⟩ c w (by omega) (by show 1 * c ≤ _; omega)
  rw [show (⟨#[0]⟩ : ByteArray).data.toList = [0] from rfl, repeat_Z] at h
  exact h
def pad (n : Nat) : Nat := (16 - n % 16) % 16
/-- A text, filled up to blocks. -/
def fillB (s : List UInt8) : List UInt8 := s ++ Z (pad s.length)
theorem fillB_length (s : List UInt8) : (fillB s).length = s.length + pad s.length := by rw [fillB, List.length_append, Z_length]
theorem fillB_mod (s : List UInt8) : (fillB s).length % 16 = 0 := by rw [fillB_length]; unfold pad; omega
theorem filled_any (s : List UInt8) (w : World) (hs : s.length ≤ 1000000) : Calls Tryz.prog 114 #[.string (B s)] w fun e w' => e = .returned (.string (B (fillB s))) ∧ Below w.heap.size w w' := by
  have hp : pad s.length < 16 := Nat.mod_lt _ (by omega)
  have hrep := fun W => Repeat_any (pad s.length) W (by omega)
  have hfl : fillB s = s ++ Z (pad s.length) := rfl
  have HFL := Lib.hid hfl
  have HREP := Lib.hid hrep
  have hzl := Z_length (pad s.length)
  clear hfl hrep
  go_enter Tryz.func114, Tryz.ntmps114
  go_wp2_with fail
  rw [show (-((s.length : Int) % 16) % 16 : Int) = ((pad s.length : Nat) : Int) by unfold pad; omega]
  refine Calls.ext (HREP.out _) fun u => ?_
  go_wp2
  go_ret
  exact ⟨by rw [HFL.out]; rfl, by ((repeat' (with_reducible first | exact Below.refl _ _ | assumption | refine Below.drew ?_ | refine below_drewN ?_ _ | refine Below.setCell ?_ ?_ _ | refine Below.alloc ?_ ?_ _ | refine Below.ext ?_ ?_ _ | refine Below.trans ?_ (Below.mono ‹_› ?_))) <;> first | omega | (simp; done) | (simp; omega))⟩
/-- The bytes of a length in bits. -/
def lenB (n : Nat) : List UInt8 := (be8 (8 * n)).map UInt8.ofNat
theorem lenB_length (n : Nat) : (lenB n).length = 8 := by simp [lenB, be8]
def allB (a t : List UInt8) : List UInt8 := fillB a ++ (fillB t ++ (lenB a.length ++ lenB t.length))
theorem allB_mod (a t : List UInt8) : (allB a t).length % 16 = 0 := by
  have h1 := fillB_mod a
  have h2 := fillB_mod t
  simp only [allB, List.length_append, lenB_length]
  omega
def blk (l : List UInt8) (k : Nat) : List UInt8 := (l.drop (16 * k)).take 16
/-- The hash's sum behind k blocks. -/
def sumN (h : List UInt8) (l : List UInt8) : Nat → Nat
  | 0 => 0
  | k + 1 => mul (sumN h l k ^^^ rd (blk l k)) (rd h)
theorem sumN_lt (h l : List UInt8) : ∀ k, sumN h l k < 2 ^ 128
  | 0 => by unfold sumN; omega
  | k + 1 => Field.mul_lt (rd_lt h)
/-- The hash of two texts. -/
def hashB (h a t : List UInt8) : List UInt8 := WR (sumN h (allB a t) ((allB a t).length / 16))
theorem hashB_length (h a t : List UInt8) : (hashB h a t).length = 16 := WR_length _
theorem Hash_none (h a t : List UInt8) (w : World) (hh : ¬ h.length = 16) : Calls Tryz.prog 94 #[.string (B h), .string (B a), .string (B t)] w fun e w' => e = .returned (.string (B [])) ∧ Below w.heap.size w w' := by
  go_enter Tryz.func94, Tryz.ntmps94
  go_wp2
  go_ret
  exact ⟨rfl, by ((repeat' (with_reducible first | exact Below.refl _ _ | assumption | refine Below.drew ?_ | refine below_drewN ?_ _ | refine Below.setCell ?_ ?_ _ | refine Below.alloc ?_ ?_ _ | refine Below.ext ?_ ?_ _ | refine Below.trans ?_ (Below.mono ‹_› ?_))) <;> first | omega | (simp; done) | (simp; omega))⟩
set_option maxHeartbeats 800000 in
set_option maxRecDepth 100000 in
theorem Hash_any (h a t : List UInt8) (w : World) (hh : h.length = 16) (ha : a.length ≤ 1000000) (ht : t.length ≤ 1000000) : Calls Tryz.prog 94 #[.string (B h), .string (B a), .string (B t)] w fun e w' => e = .returned (.string (B (hashB h a t))) ∧ Below w.heap.size w w' := by
  have hfa := fun W => filled_any a W ha
  have hm : ∀ e, el e = .agg (cs e) := fun _ => rfl
  have hft := fun W => filled_any t W ht
  have hr := fun W => read_any h W hh
  have hla : ∀ W, Calls Tryz.prog 115 #[.int .u64 (8 * (a.length : Int))] W fun e w' => e = .returned (.string (B (lenB a.length))) ∧ Below W.heap.size W w' := fun W => bytes8_any (8 * a.length) W (by omega)
  have hlt : ∀ W, Calls Tryz.prog 115 #[.int .u64 (8 * (t.length : Int))] W fun e w' => e = .returned (.string (B (lenB t.length))) ∧ Below W.heap.size W w' := fun W => bytes8_any (8 * t.length) W (by omega)
  have hall : fillB a ++ (fillB t ++ (lenB a.length ++ lenB t.length)) = allB a t := rfl
  have hmod := allB_mod a t
  have hl1 := fillB_length a
  have hl2 := fillB_length t
  have hp1 : pad a.length < 16 := Nat.mod_lt _ (by omega)
  have hp2 : pad t.length < 16 := Nat.mod_lt _ (by omega)
  have hl3 := lenB_length a.length
  have hl4 := lenB_length t.length
  have hal : (allB a t).length ≤ 3000000 := by simp only [allB, List.length_append, lenB_length]; omega
  rw [hm] at hr
  unfold cs at hr
  have HASH := Lib.hid (show B (hashB h a t) = B (WR (sumN h (allB a t) ((allB a t).length / 16))) from rfl)
  have HALL := Lib.hid hall
  have HMOD := Lib.hid hmod
  have HFA := Lib.hid hfa
  have HFT := Lib.hid hft
  have HR := Lib.hid hr
  have HLA := Lib.hid hla
  have HLT := Lib.hid hlt
  clear hall hfa hft hr hla hlt hmod
  generalize fillB a = fa at *
  generalize fillB t = ft at *
  have hfal : fa.length ≤ 1000100 := by omega
  have hftl : ft.length ≤ 1000100 := by omega
  clear hl1 hl2 hp1 hp2
  generalize lenB a.length = la at *
  generalize lenB t.length = lt at *
  go_enter Tryz.func94, Tryz.ntmps94
  go_wp2_with fail
  refine Calls.ext (HR.out _) fun u1 => ?_
  go_wp2_with fail
  refine Calls.ext (HFA.out _) fun u2 => ?_
  go_wp2_with fail
  refine Calls.ext (HFT.out _) fun u3 => ?_
  go_wp2_with fail
  refine Calls.ext (HLA.out _) fun u4 => ?_
  go_wp2_with fail
  refine Calls.ext (HLT.out _) fun u5 => ?_
  go_wp2_with fail
  rw [HALL.out]
  clear HFA HFT HR HLA HLT HALL hl3 hl4 hfal hftl
  generalize allB a t = L at *
  go_loopw [9] (fun s9 wr => ∃ (k : Nat) (u : Xt), 16 * k ≤ L.length ∧ s9 = .string (B (L.drop (16 * k))) ∧ wr = ext (((ext w u1).alloc (.cells (cs (rd h)) 160)).alloc (.cells (cs (sumN h L k)) 160)) u) (fun s _ => match s with | .string b => b.size | _ => 0)
  case atStart => exact ⟨0, comb (comb (comb u2 u3) u4) u5, by omega, by rw [Nat.mul_zero, List.drop_zero], by kernel_rfl⟩
  case round =>
    obtain ⟨k, u, hk, rfl, rfl⟩ := hrel
    by_cases hend : 16 * k = L.length
    · rw [show L.drop (16 * k) = [] from List.drop_eq_nil_of_le (by omega)]
      have hkl : L.length / 16 = k := by omega
      have hwr := fun W => write_any (sumN h L k) W (sumN_lt h L k)
      rw [show NB (be8 (hiW (sumN h L k)) ++ be8 (loW (sumN h L k))) = B (WR (sumN h L k)) from rfl, hm] at hwr
      rw [hkl] at HASH
      have HW := Lib.hid hwr
      clear hwr hkl hend
      unfold cs at *
      go_wp2_with fail
      refine Calls.ext (HW.out _) fun u6 => ?_
      go_wp2
      go_ret
      exact ⟨by rw [HASH.out]; rfl, by ((repeat' (with_reducible first | exact Below.refl _ _ | assumption | refine Below.drew ?_ | refine below_drewN ?_ _ | refine Below.setCell ?_ ?_ _ | refine Below.alloc ?_ ?_ _ | refine Below.ext ?_ ?_ _ | refine Below.trans ?_ (Below.mono ‹_› ?_))) <;> first | omega | (simp; done) | (simp; omega))⟩
    · have hlt : 16 * k < L.length := by omega
      have hm16 := HMOD.out
      have h16 : 16 ≤ (L.drop (16 * k)).length := by rw [List.length_drop]; omega
      have h16j : (16 : Int) ≤ ((L.length - 16 * k : Nat) : Int) := by rw [List.length_drop] at h16; omega
      have h16i : (16 : Int) ≤ ((L.drop (16 * k)).length : Int) := by omega
      have hbl : (blk L k).length = 16 := by rw [blk, List.length_take]; omega
      have hemp : (L.drop (16 * k)).isEmpty = false := by
        rw [List.isEmpty_eq_false_iff]
        intro e
        rw [e] at h16
        simp at h16
      have hnext : sumN h L (k + 1) = mul (sumN h L k ^^^ rd (blk L k)) (rd h) := rfl
      have hrdb := fun W => read_any (blk L k) W hbl
      have hadd := fun W => add_any (sumN h L k) (rd (blk L k)) W (sumN_lt h L k) (rd_lt _)
      have hlt1 : sumN h L k ^^^ rd (blk L k) < 2 ^ 128 := Nat.xor_lt_two_pow (sumN_lt h L k) (rd_lt _)
      have htim := fun W => times_any (sumN h L k ^^^ rd (blk L k)) (rd h) W hlt1 (rd_lt _)
      rw [← hnext] at htim
      simp only [hm] at hrdb hadd htim
      have hdr : List.take (L.length - 16 * k - 16) (L.drop (16 * k + 16)) = L.drop (16 * (k + 1)) := by
        rw [show 16 * (k + 1) = 16 * k + 16 by omega]
        exact List.take_of_length_le (by rw [List.length_drop]; omega)
      have HDR := Lib.hid hdr
      have HM16 := Lib.hid hm16
      have HRD := Lib.hid hrdb
      have HADD := Lib.hid hadd
      have HTIM := Lib.hid htim
      clear hnext hrdb hadd htim hdr hm16 hlt1
      have hszs : ∀ e, (cs e).size = 2 := fun _ => rfl
      have hone : ∀ e, (cs e).all (·.oneCell') = true := fun _ => by simp [cs, Value.oneCell']
      have hinf : (Tryz.prog.info? 160).map (·.size) = some 2 := by kernel_rfl
      go_upto_region 8 with fail
      have hi7 : (Tryz.prog.info? 160).map (·.size) = some (cs (rd h)).size := hinf
      have hi8 : (Tryz.prog.info? 160).map (·.size) = some (cs (sumN h L k)).size := hinf
      have hiN : (Tryz.prog.info? 160).map (·.size) = some (cs (sumN h L (k + 1))).size := hinf
      have hsN : (cs (sumN h L k)).size = (cs (sumN h L (k + 1))).size := rfl
      have hoN := hone (sumN h L (k + 1))
      have HSET := Lib.hid (fun u9 => show (ext (((ext w u1).alloc (.cells (cs (rd h)) 160)).alloc (.cells (cs (sumN h L k)) 160)) u9).setRow (w.heap.size + more u1 + 1) (cs (sumN h L (k + 1))) = ext (((ext w u1).alloc (.cells (cs (rd h)) 160)).alloc (.cells (cs (sumN h L (k + 1))) 160)) u9 by rw [setRow_ext _ _ _ _ (by simp), setRow_at (by simp)])
      have hH : (ext (((ext w u1).alloc (.cells (cs (rd h)) 160)).alloc (.cells (cs (sumN h L k)) 160)) u).drew.heap[w.heap.size + more u1 + 1]? = some (.cells (cs (sumN h L k)) 160 (0, 0)) := heap_ext (heap_at (by simp))
      have hS : Below w.heap.size w (ext (((ext w u1).alloc (.cells (cs (rd h)) 160)).alloc (.cells (cs (sumN h L k)) 160)) u).drew ∧ (ext (((ext w u1).alloc (.cells (cs (rd h)) 160)).alloc (.cells (cs (sumN h L k)) 160)) u).drew.heap[w.heap.size + more u1]? = some (.cells (cs (rd h)) 160 (0, 0)) := ⟨by ((repeat' (with_reducible first | exact Below.refl _ _ | assumption | refine Below.drew ?_ | refine below_drewN ?_ _ | refine Below.setCell ?_ ?_ _ | refine Below.alloc ?_ ?_ _ | refine Below.ext ?_ ?_ _ | refine Below.trans ?_ (Below.mono ‹_› ?_))) <;> first | omega | (simp; done) | (simp; omega)), heap_ext (heap_under (heap_at (by simp)))⟩
      have hB : Below ((((ext w u1).alloc (.cells (cs (rd h)) 160)).alloc (.cells (cs (sumN h L k)) 160))).heap.size (((ext w u1).alloc (.cells (cs (rd h)) 160)).alloc (.cells (cs (sumN h L k)) 160)) (ext (((ext w u1).alloc (.cells (cs (rd h)) 160)).alloc (.cells (cs (sumN h L k)) 160)) u).drew := (ext_below _ _).drew
      have hb8 : w.heap.size ≤ w.heap.size + more u1 + 1 := by omega
      have hb78 : ¬ w.heap.size + more u1 + 1 = w.heap.size + more u1 := by omega
      refine wp_region_held (S := fun w' => Below w.heap.size w w' ∧ w'.heap[w.heap.size + more u1]? = some (.cells (cs (rd h)) 160 (0, 0))) (by kernel_rfl) ?_
      change wpAnyH _ _ _ _ _ _ _ _ (ext (((ext w u1).alloc (.cells (cs (rd h)) 160)).alloc (.cells (cs (sumN h L k)) 160)) u).drew
      refine takeH 1 rfl rfl (some 37) rfl (.string (B (L.drop (16 * k)))) (by kernel_rfl) (by kernel_rfl) (by kernel_rfl) (fun _ _ _ h => h) (fun _ _ => rfl) hS ?_
      simp only [Act.put, List.setIfInBounds_toArray, List.set_cons_zero, List.set_cons_succ]
      refine takeH 2 rfl rfl (some 38) rfl (.string (B (blk L k))) (by kernel_rfl) (by kernel_rfl) (by kernel_rfl) (fun _ _ _ h => h) (fun w' hw => ?_) hS ?_
      · go_simp
        try rfl
      simp only [Act.put, List.setIfInBounds_toArray, List.set_cons_zero, List.set_cons_succ]
      refine takeH 5 rfl rfl (some 41) rfl (.agg (cs (rd h))) (by kernel_rfl) (by kernel_rfl) (by kernel_rfl) (fun _ _ _ h => h) (fun w' hw => run_load_row 160 (.tmp 7) rfl (w.heap.size + more u1) rfl (cs (rd h)) 160 (0, 0) hw.2 _ Tryz.underlying160 rfl hi7) hS ?_
      simp only [Act.put, List.setIfInBounds_toArray, List.set_cons_zero, List.set_cons_succ]
      refine twoH 0 3 rfl rfl rfl rfl (by kernel_rfl) (fun K hK => ?_) (fun K hK => ?_)
      · refine wpH_run (some 36) rfl (.agg (cs (sumN h L k))) (run_load_row 160 (.tmp 8) rfl (w.heap.size + more u1 + 1) rfl (cs (sumN h L k)) 160 (0, 0) hH _ Tryz.underlying160 rfl hi8) ?_
        simp only [Act.put, List.setIfInBounds_toArray, List.set_cons_zero, List.set_cons_succ]
        refine hK _ _ hS fun _ => ?_
        clear hK K
        refine oneH 3 rfl rfl (by kernel_rfl) fun K hK => ?_
        refine wpH_call (some 39) rfl 113 #[.string (B (blk L k))] (by kernel_rfl) _ _ (HRD.out _) fun W39 hW39 => ?_
        simp only [Act.put, List.setIfInBounds_toArray, List.set_cons_zero, List.set_cons_succ]
        have hB39 : Below ((((ext w u1).alloc (.cells (cs (rd h)) 160)).alloc (.cells (cs (sumN h L k)) 160))).heap.size (((ext w u1).alloc (.cells (cs (rd h)) 160)).alloc (.cells (cs (sumN h L k)) 160)) W39 := hB.trans (hW39.mono hB.size)
        have hH39 := below_heap hW39 (Aes.lt_of_heap hH) hH
        have hS39 : Below w.heap.size w W39 ∧ W39.heap[(w.heap.size + more u1)]? = some (.cells (cs (rd h)) 160 (0, 0)) := ⟨hS.1.trans (hW39.mono hS.1.size), below_heap hW39 (Aes.lt_of_heap hS.2) hS.2⟩
        refine hK _ _ hS39 fun _ => ?_
        clear hK K
        refine oneH 4 rfl rfl (by kernel_rfl) fun K hK => ?_
        refine wpH_call (some 40) rfl 116 #[.agg (cs (sumN h L k)), .agg (cs (rd (blk L k)))] (by kernel_rfl) _ _ (HADD.out _) fun W40 hW40 => ?_
        simp only [Act.put, List.setIfInBounds_toArray, List.set_cons_zero, List.set_cons_succ]
        have hB40 : Below ((((ext w u1).alloc (.cells (cs (rd h)) 160)).alloc (.cells (cs (sumN h L k)) 160))).heap.size (((ext w u1).alloc (.cells (cs (rd h)) 160)).alloc (.cells (cs (sumN h L k)) 160)) W40 := hB39.trans (hW40.mono hB39.size)
        have hH40 := below_heap hW40 (Aes.lt_of_heap hH39) hH39
        have hS40 : Below w.heap.size w W40 ∧ W40.heap[(w.heap.size + more u1)]? = some (.cells (cs (rd h)) 160 (0, 0)) := ⟨hS39.1.trans (hW40.mono hS39.1.size), below_heap hW40 (Aes.lt_of_heap hS39.2) hS39.2⟩
        refine hK _ _ hS40 fun _ => ?_
        clear hK K
        refine oneH 6 rfl rfl (by kernel_rfl) fun K hK => ?_
        refine wpH_call (some 42) rfl 117 #[.agg (cs (sumN h L k ^^^ rd (blk L k))), .agg (cs (rd h))] (by kernel_rfl) _ _ (HTIM.out _) fun W42 hW42 => ?_
        simp only [Act.put, List.setIfInBounds_toArray, List.set_cons_zero, List.set_cons_succ]
        have hB42 : Below ((((ext w u1).alloc (.cells (cs (rd h)) 160)).alloc (.cells (cs (sumN h L k)) 160))).heap.size (((ext w u1).alloc (.cells (cs (rd h)) 160)).alloc (.cells (cs (sumN h L k)) 160)) W42 := hB40.trans (hW42.mono hB40.size)
        have hH42 := below_heap hW42 (Aes.lt_of_heap hH40) hH40
        have hS42 : Below w.heap.size w W42 ∧ W42.heap[(w.heap.size + more u1)]? = some (.cells (cs (rd h)) 160 (0, 0)) := ⟨hS40.1.trans (hW42.mono hS40.1.size), below_heap hW42 (Aes.lt_of_heap hS40.2) hS40.2⟩
        refine hK _ _ hS42 fun _ => ?_
        clear hK K
        refine oneH 7 rfl rfl (by kernel_rfl) fun K hK => ?_
        refine wpH_store rfl 160 (.tmp 8) (.tmp 42) rfl (w.heap.size + more u1 + 1) (cs (sumN h L (k + 1))) (cs (sumN h L k)) 160 rfl rfl hH42 hiN hsN hoN ?_
        have hfin : Below w.heap.size w (W42.setRow (w.heap.size + more u1 + 1) (cs (sumN h L (k + 1)))) ∧ (W42.setRow (w.heap.size + more u1 + 1) (cs (sumN h L (k + 1)))).heap[(w.heap.size + more u1)]? = some (.cells (cs (rd h)) 160 (0, 0)) := ⟨setRow_below _ hb8 hS42.1, by rw [setRow_other _ _ _ _ hb78]; exact hS42.2⟩
        refine hK _ _ hfin fun _ => ?_
        refine wpAnyH_done (by kernel_rfl) ?_ _
        clear hK K
        obtain ⟨u9, hu9⟩ := ext_of_below hB42
        have HF := Lib.hid (show W42.setRow (w.heap.size + more u1 + 1) (cs (sumN h L (k + 1))) = ext (((ext w u1).alloc (.cells (cs (rd h)) 160)).alloc (.cells (cs (sumN h L (k + 1))) 160)) u9 by rw [hu9]; exact HSET.out u9)
        generalize W42.setRow (w.heap.size + more u1 + 1) (cs (sumN h L (k + 1))) = WF at *
        have hWF := HF.out
        subst hWF
        clear HF hu9
        go_wp2
        go_round
        case rel => exact ⟨k + 1, u9, by omega, by rw [HDR.out], rfl⟩
        case measure =>
          show (B _).size < (B _).size
          rw [B_size, B_size, List.length_drop, List.length_take]
          omega
      · refine wpH_call (some 39) rfl 113 #[.string (B (blk L k))] (by kernel_rfl) _ _ (HRD.out _) fun W39 hW39 => ?_
        simp only [Act.put, List.setIfInBounds_toArray, List.set_cons_zero, List.set_cons_succ]
        have hB39 : Below ((((ext w u1).alloc (.cells (cs (rd h)) 160)).alloc (.cells (cs (sumN h L k)) 160))).heap.size (((ext w u1).alloc (.cells (cs (rd h)) 160)).alloc (.cells (cs (sumN h L k)) 160)) W39 := hB.trans (hW39.mono hB.size)
        have hH39 := below_heap hW39 (Aes.lt_of_heap hH) hH
        have hS39 : Below w.heap.size w W39 ∧ W39.heap[(w.heap.size + more u1)]? = some (.cells (cs (rd h)) 160 (0, 0)) := ⟨hS.1.trans (hW39.mono hS.1.size), below_heap hW39 (Aes.lt_of_heap hS.2) hS.2⟩
        refine hK _ _ hS39 fun _ => ?_
        clear hK K
        refine oneH 0 rfl rfl (by kernel_rfl) fun K hK => ?_
        refine wpH_run (some 36) rfl (.agg (cs (sumN h L k))) (run_load_row 160 (.tmp 8) rfl (w.heap.size + more u1 + 1) rfl (cs (sumN h L k)) 160 (0, 0) hH39 _ Tryz.underlying160 rfl hi8) ?_
        simp only [Act.put, List.setIfInBounds_toArray, List.set_cons_zero, List.set_cons_succ]
        refine hK _ _ hS39 fun _ => ?_
        clear hK K
        refine oneH 4 rfl rfl (by kernel_rfl) fun K hK => ?_
        refine wpH_call (some 40) rfl 116 #[.agg (cs (sumN h L k)), .agg (cs (rd (blk L k)))] (by kernel_rfl) _ _ (HADD.out _) fun W40 hW40 => ?_
        simp only [Act.put, List.setIfInBounds_toArray, List.set_cons_zero, List.set_cons_succ]
        have hB40 : Below ((((ext w u1).alloc (.cells (cs (rd h)) 160)).alloc (.cells (cs (sumN h L k)) 160))).heap.size (((ext w u1).alloc (.cells (cs (rd h)) 160)).alloc (.cells (cs (sumN h L k)) 160)) W40 := hB39.trans (hW40.mono hB39.size)
        have hH40 := below_heap hW40 (Aes.lt_of_heap hH39) hH39
        have hS40 : Below w.heap.size w W40 ∧ W40.heap[(w.heap.size + more u1)]? = some (.cells (cs (rd h)) 160 (0, 0)) := ⟨hS39.1.trans (hW40.mono hS39.1.size), below_heap hW40 (Aes.lt_of_heap hS39.2) hS39.2⟩
        refine hK _ _ hS40 fun _ => ?_
        clear hK K
        refine oneH 6 rfl rfl (by kernel_rfl) fun K hK => ?_
        refine wpH_call (some 42) rfl 117 #[.agg (cs (sumN h L k ^^^ rd (blk L k))), .agg (cs (rd h))] (by kernel_rfl) _ _ (HTIM.out _) fun W42 hW42 => ?_
        simp only [Act.put, List.setIfInBounds_toArray, List.set_cons_zero, List.set_cons_succ]
        have hB42 : Below ((((ext w u1).alloc (.cells (cs (rd h)) 160)).alloc (.cells (cs (sumN h L k)) 160))).heap.size (((ext w u1).alloc (.cells (cs (rd h)) 160)).alloc (.cells (cs (sumN h L k)) 160)) W42 := hB40.trans (hW42.mono hB40.size)
        have hH42 := below_heap hW42 (Aes.lt_of_heap hH40) hH40
        have hS42 : Below w.heap.size w W42 ∧ W42.heap[(w.heap.size + more u1)]? = some (.cells (cs (rd h)) 160 (0, 0)) := ⟨hS40.1.trans (hW42.mono hS40.1.size), below_heap hW42 (Aes.lt_of_heap hS40.2) hS40.2⟩
        refine hK _ _ hS42 fun _ => ?_
        clear hK K
        refine oneH 7 rfl rfl (by kernel_rfl) fun K hK => ?_
        refine wpH_store rfl 160 (.tmp 8) (.tmp 42) rfl (w.heap.size + more u1 + 1) (cs (sumN h L (k + 1))) (cs (sumN h L k)) 160 rfl rfl hH42 hiN hsN hoN ?_
        have hfin : Below w.heap.size w (W42.setRow (w.heap.size + more u1 + 1) (cs (sumN h L (k + 1)))) ∧ (W42.setRow (w.heap.size + more u1 + 1) (cs (sumN h L (k + 1)))).heap[(w.heap.size + more u1)]? = some (.cells (cs (rd h)) 160 (0, 0)) := ⟨setRow_below _ hb8 hS42.1, by rw [setRow_other _ _ _ _ hb78]; exact hS42.2⟩
        refine hK _ _ hfin fun _ => ?_
        refine wpAnyH_done (by kernel_rfl) ?_ _
        clear hK K
        obtain ⟨u9, hu9⟩ := ext_of_below hB42
        have HF := Lib.hid (show W42.setRow (w.heap.size + more u1 + 1) (cs (sumN h L (k + 1))) = ext (((ext w u1).alloc (.cells (cs (rd h)) 160)).alloc (.cells (cs (sumN h L (k + 1))) 160)) u9 by rw [hu9]; exact HSET.out u9)
        generalize W42.setRow (w.heap.size + more u1 + 1) (cs (sumN h L (k + 1))) = WF at *
        have hWF := HF.out
        subst hWF
        clear HF hu9
        go_wp2
        go_round
        case rel => exact ⟨k + 1, u9, by omega, by rw [HDR.out], rfl⟩
        case measure =>
          show (B _).size < (B _).size
          rw [B_size, B_size, List.length_drop, List.length_take]
          omega
end Go.Proofs.YtlbpodddokhmaaaGreat.Gf
