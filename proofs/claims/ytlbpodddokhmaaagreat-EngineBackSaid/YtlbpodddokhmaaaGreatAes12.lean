/-
  AES: the walk of Do.
  Conditions: a cipher that lies in memory.
-/
import Derived.Test.YtlbpodddokhmaaaGreatAes11
import Derived.Deep.CutRange
namespace Go.Proofs.YtlbpodddokhmaaaGreat.Aes
open Go.ChangeShapes Go.WideShapes Go.ChangeAt Go.RowKit Go.Deep Go.Great
/-- A round's words. -/
def rk (ws : List Nat) (i : Nat) : List Nat := tab (fun k => ws.getD (i * 16 + k) 0) 16
def roundF (r : Nat) (ws : List Nat) (i : Nat) (s : List Nat) : List Nat :=
  let t := tab (turnF (tab (thrF subT s) 16)) 16
  tab (addF (if i < r then tab (mixF t [2, 3, 1, 1]) 16 else t) (rk ws i)) 16
/-- A block, done: its state behind n rounds. -/
def stN (r : Nat) (ws : List Nat) (b : List UInt8) : Nat → List Nat
  | 0 => tab (addF (tab (byteF b) 16) (rk ws 0)) 16
  | n + 1 => roundF r ws (n + 1) (stN r ws b n)
theorem rk_length (ws : List Nat) (i : Nat) : (rk ws i).length = 16 := tab_length _ _
theorem rk_bytes {ws : List Nat} (h : Bytes ws) (i : Nat) : Bytes (rk ws i) := tab_bytes fun _ _ => h _
theorem lt_of_heap {w : World} {k : Nat} {x : Obj} (h : w.heap[k]? = some x) : k < w.heap.size := by
  rcases Nat.lt_or_ge k w.heap.size with h' | h'
  · exact h'
  · rw [Array.getElem?_eq_none h'] at h; cases h
theorem tabAt_sub {w W : World} {cb r : Nat} {v : Value} {T K : List Nat} (h : w.heap[cb]? = some (.cells (ciph r v T K) 143 (0, 0))) (hlt : cb < w.heap.size) (hW : Below w.heap.size w W) (hT : T.length = 256 := by exact subT_length) : TabAt W cb 2 T :=
  ⟨Nat.lt_of_lt_of_le hlt hW.size, fun x hx => by rw [cell_of_row W cb _ _ _ _ (below_heap hW hlt h)]; exact ciph_sub _ _ _ _ (by omega)⟩
theorem roundF_length (r : Nat) (ws : List Nat) (i : Nat) (s : List Nat) : (roundF r ws i s).length = 16 := tab_length _ _
theorem stN_length (r : Nat) (ws : List Nat) (b : List UInt8) : ∀ n, (stN r ws b n).length = 16
  | 0 => tab_length _ _
  | _n + 1 => roundF_length _ _ _ _
theorem addF_bytes {s t : List Nat} (hs : Bytes s) (ht : Bytes t) (n : Nat) : Bytes (tab (addF s t) n) := tab_bytes fun _ _ => xor_lt (hs _) (ht _)
theorem turnT_bytes (s : List Nat) : Bytes (tab (turnF (tab (thrF subT s) 16)) 16) := tab_bytes fun _ _ => tab_bytes (fun _ _ => subT_bytes _) _
theorem mixT_bytes {s : List Nat} (b : List Nat) (hs : Bytes s) : Bytes (tab (mixF s b) 16) := tab_bytes fun _ _ => mixJ_lt b hs _ _ _
theorem roundF_bytes (r : Nat) {ws : List Nat} (hws : Bytes ws) (i : Nat) (s : List Nat) : Bytes (roundF r ws i s) := by
  unfold roundF
  refine addF_bytes ?_ (rk_bytes hws _) _
  split
  · exact mixT_bytes _ (turnT_bytes s)
  · exact turnT_bytes s
theorem stN_bytes {r : Nat} {ws : List Nat} (hws : Bytes ws) (b : List UInt8) : ∀ n, Bytes (stN r ws b n)
  | 0 => addF_bytes (tab_bytes fun _ _ => byteF_lt _ _) (rk_bytes hws _) _
  | _n + 1 => roundF_bytes r hws _ _
set_option maxHeartbeats 1600000 in
set_option maxRecDepth 100000 in
theorem Do_any (b : List UInt8) (cb r : Nat) (ws : List Nat) (w : World) (hb : b.length = 16) (hc : CipherAt w cb r ws) (hws : Bytes ws) (hr : r = 10 ∨ r = 14) : Calls Tryz.prog 92 #[.pointer (some ⟨cb, 0, none⟩), .string (B b)] w fun e w' => e = .returned (.string (NB (stN r ws b r))) ∧ Below w.heap.size w w' := by
  obtain ⟨g, cap, Bk, hcb, hBk, hg, hcell⟩ := hc
  have hlt : cb < w.heap.size := by
    rcases Nat.lt_or_ge cb w.heap.size with h | h
    · exact h
    · rw [Array.getElem?_eq_none h] at hcb; cases hcb
  have HCB := Lib.hid hcb
  have HCELL := Lib.hid hcell
  have HR := Lib.hid hr
  clear hcb hcell hr
  go_enter Tryz.func92, Tryz.ntmps92
  go_upto_region 3 with fail
  go_cut [5] from 10 (fun s5 wx => ∃ bk, s5 = .pointer (some ⟨bk, 0, none⟩) ∧ w.heap.size ≤ bk ∧ wx.heap[bk]? = some (.cells (nums .u8 (stN r ws b 0)) 149 (0, 0)) ∧ Below w.heap.size w wx)
  case first =>
    refine wp_region_held (S := fun w' => Below w.heap.size w w') (by kernel_rfl) ?_
    have hS : Below w.heap.size w w.drew := (Below.refl _ _).drew
    change wpAnyH _ _ _ _ _ _ _ _ w.drew
    refine takeH 0 rfl rfl (some 10) rfl (.string (B b)) (by kernel_rfl) (by kernel_rfl) (by kernel_rfl) (fun _ _ _ h => h) (fun _ _ => rfl) hS ?_
    simp only [Act.put, List.setIfInBounds_toArray, List.set_cons_zero, List.set_cons_succ]
    refine takeH 2 rfl rfl (some 12) rfl (.pointer (some ⟨cb, 0, none⟩)) (by kernel_rfl) (by kernel_rfl) (by kernel_rfl) (fun _ _ _ h => h) (fun _ _ => rfl) hS ?_
    simp only [Act.put, List.setIfInBounds_toArray, List.set_cons_zero, List.set_cons_succ]
    refine takeH 3 rfl rfl (some 13) rfl (.pointer (some ⟨cb, 0, none⟩)) (by kernel_rfl) (by kernel_rfl) (by kernel_rfl) (fun _ _ _ h => h) (fun _ _ => rfl) hS ?_
    simp only [Act.put, List.setIfInBounds_toArray, List.set_cons_zero, List.set_cons_succ]
    refine takeH 4 rfl rfl (some 14) rfl (.pointer (some ⟨cb, 1, none⟩)) (by kernel_rfl) (by kernel_rfl) (by kernel_rfl) (fun _ _ _ h => h) (fun _ _ => by kernel_rfl) hS ?_
    simp only [Act.put, List.setIfInBounds_toArray, List.set_cons_zero, List.set_cons_succ]
    refine takeH 5 rfl rfl (some 15) rfl (.slice (some ⟨g, 0, none⟩) (r + 1) cap) (by kernel_rfl) (by kernel_rfl) (by kernel_rfl) (fun _ _ _ h => h) (fun w' hw => ?_) hS ?_
    · have h1 : w'.cell? ⟨cb, 1, none⟩ = some (.slice (some ⟨g, 0, none⟩) (r + 1) cap) := by
        rw [cell_of_row w' cb 1 _ _ _ (below_heap hw hlt HCB.out)]; exact ciph_1 _ _ _ _
      go_simp
    simp only [Act.put, List.setIfInBounds_toArray, List.set_cons_zero, List.set_cons_succ]
    refine takeH 6 rfl rfl (some 16) rfl (.pointer (some ⟨g, 0, none⟩)) (by kernel_rfl) (by kernel_rfl) (by kernel_rfl) (fun _ _ _ h => h) (fun w' hw => ?_) hS ?_
    · go_simp
    simp only [Act.put, List.setIfInBounds_toArray, List.set_cons_zero, List.set_cons_succ]
    refine takeH 7 rfl rfl (some 17) rfl (.agg (nums .u8 (rk ws 0))) (by kernel_rfl) (by kernel_rfl) (by kernel_rfl) (fun _ _ _ h => h) (fun w' hw => ?_) hS ?_
    · refine run_load_part 149 (.tmp 16) rfl g 0 rfl .u8 (rk ws 0) (fun j hj => ?_) (.array 4 147) Tryz.underlying149 rfl (by rw [rk_length]; kernel_rfl)
      rw [rk_length] at hj
      rw [hw.cell (p := ⟨g, 0 + j, none⟩) hg, Nat.zero_add, HCELL.out j (by omega), rk, tab_get _ _ _ hj, Nat.zero_mul, Nat.zero_add]
    simp only [Act.put, List.setIfInBounds_toArray, List.set_cons_zero, List.set_cons_succ]
    have hread := fun W => read_any b W hb
    have hadd := fun W => add_any (tab (byteF b) 16) (rk ws 0) W (tab_length _ _) (rk_length _ _) (tab_bytes fun k _ => byteF_lt b k) (rk_bytes hws 0)
    have hst : tab (addF (tab (byteF b) 16) (rk ws 0)) 16 = stN r ws b 0 := rfl
    rw [hst] at hadd
    have hl0 : (stN r ws b 0).length = 16 := tab_length _ _
    generalize nums .u8 (tab (byteF b) 16) = V0 at *
    generalize nums .u8 (rk ws 0) = V1 at *
    have hi0 : (Tryz.prog.info? 149).map (·.size) = some (nums .u8 (stN r ws b 0)).size := by rw [nums_size, hl0]; kernel_rfl
    have ho0 : (nums .u8 (zeros 16)).size = (nums .u8 (stN r ws b 0)).size := by rw [nums_size, nums_size, hl0]; rfl
    have h10 : (nums .u8 (stN r ws b 0)).all (·.oneCell') = true := nums_oneCell _ _
    refine twoH 1 9 rfl rfl rfl rfl (by kernel_rfl) (fun K hK => ?_) (fun K hK => ?_)
    · refine wpH_call (some 11) rfl 104 #[.string (B b)] (by kernel_rfl) _ _ (hread w.drew) fun W11 hW11 => ?_
      simp only [Act.put, List.setIfInBounds_toArray, List.set_cons_zero, List.set_cons_succ]
      have hS11 : Below w.heap.size w W11 := hS.trans (hW11.mono (by simp))
      have hz11 : w.heap.size ≤ W11.heap.size := hS11.size
      refine hK _ _ hS11 fun _ => ?_
      clear hK K
      refine twoH 8 9 rfl rfl rfl rfl (by kernel_rfl) (fun K hK => ?_) (fun K hK => ?_)
      · refine wpH_call (some 18) rfl 105 #[.agg V0, .agg V1] (by kernel_rfl) _ _ (hadd W11) fun W18 hW18 => ?_
        simp only [Act.put, List.setIfInBounds_toArray, List.set_cons_zero, List.set_cons_succ]
        have hS18 : Below w.heap.size w W18 := hS11.trans (hW18.mono hz11)
        have hz18 : w.heap.size ≤ W18.heap.size := hS18.size
        refine hK _ _ hS18 fun _ => ?_
        clear hK K
        refine oneH 9 rfl rfl (by kernel_rfl) fun K hK => ?_
        refine wpH_run (some 5) rfl (.pointer (some ⟨W18.heap.size, 0, none⟩)) (w' := W18.alloc (.cells (nums .u8 (zeros 16)) 149)) (by kernel_rfl) ?_
        simp only [Act.put, List.setIfInBounds_toArray, List.set_cons_zero, List.set_cons_succ]
        refine hK _ _ (hS18.alloc hz18 _) fun _ => ?_
        clear hK K
        refine oneH 10 rfl rfl (by kernel_rfl) fun K hK => ?_
        refine wpH_store rfl 149 (.tmp 5) (.tmp 18) rfl W18.heap.size (nums .u8 (stN r ws b 0)) (nums .u8 (zeros 16)) 149 rfl rfl (heap_alloc_last W18 _) hi0 ho0 h10 ?_
        have hfin : Below w.heap.size w ((W18.alloc (.cells (nums .u8 (zeros 16)) 149)).setRow W18.heap.size (nums .u8 (stN r ws b 0))) := setRow_below _ (hz18) (hS18.alloc hz18 _)
        refine hK _ _ hfin fun _ => ?_
        refine wpAnyH_done (by kernel_rfl) ?_ _
        have hrow := setRow_heap (W18.alloc (.cells (nums .u8 (zeros 16)) 149)) W18.heap.size (nums .u8 (zeros 16)) (nums .u8 (stN r ws b 0)) 149 (0, 0) (heap_alloc_last W18 _)
        have HF := Lib.hid hfin
        have HROW := Lib.hid hrow
        clear hfin hrow hK K
        generalize (W18.alloc (.cells (nums .u8 (zeros 16)) 149)).setRow W18.heap.size (nums .u8 (stN r ws b 0)) = WF at *
        go_wp2
        go_meet
        case rel => exact ⟨W18.heap.size, rfl, hz18, HROW.out, HF.out⟩
      · refine wpH_run (some 5) rfl (.pointer (some ⟨W11.heap.size, 0, none⟩)) (w' := W11.alloc (.cells (nums .u8 (zeros 16)) 149)) (by kernel_rfl) ?_
        simp only [Act.put, List.setIfInBounds_toArray, List.set_cons_zero, List.set_cons_succ]
        refine hK _ _ (hS11.alloc hz11 _) fun _ => ?_
        clear hK K
        refine oneH 8 rfl rfl (by kernel_rfl) fun K hK => ?_
        refine wpH_call (some 18) rfl 105 #[.agg V0, .agg V1] (by kernel_rfl) _ _ (hadd (W11.alloc (.cells (nums .u8 (zeros 16)) 149))) fun W18 hW18 => ?_
        simp only [Act.put, List.setIfInBounds_toArray, List.set_cons_zero, List.set_cons_succ]
        have hS18 : Below w.heap.size w W18 := (hS11.alloc hz11 _).trans (hW18.mono (by simp; omega))
        refine hK _ _ hS18 fun _ => ?_
        clear hK K
        refine oneH 10 rfl rfl (by kernel_rfl) fun K hK => ?_
        refine wpH_store rfl 149 (.tmp 5) (.tmp 18) rfl W11.heap.size (nums .u8 (stN r ws b 0)) (nums .u8 (zeros 16)) 149 rfl rfl (below_heap hW18 (by simp) (heap_alloc_last W11 _)) hi0 ho0 h10 ?_
        have hfin : Below w.heap.size w (W18.setRow W11.heap.size (nums .u8 (stN r ws b 0))) := setRow_below _ (hz11) (hS18)
        refine hK _ _ hfin fun _ => ?_
        refine wpAnyH_done (by kernel_rfl) ?_ _
        have hrow := setRow_heap W18 W11.heap.size (nums .u8 (zeros 16)) (nums .u8 (stN r ws b 0)) 149 (0, 0) (below_heap hW18 (by simp) (heap_alloc_last W11 _))
        have HF := Lib.hid hfin
        have HROW := Lib.hid hrow
        clear hfin hrow hK K
        generalize W18.setRow W11.heap.size (nums .u8 (stN r ws b 0)) = WF at *
        go_wp2
        go_meet
        case rel => exact ⟨W11.heap.size, rfl, hz11, HROW.out, HF.out⟩
    · refine wpH_run (some 5) rfl (.pointer (some ⟨w.drew.heap.size, 0, none⟩)) (w' := w.drew.alloc (.cells (nums .u8 (zeros 16)) 149)) (by kernel_rfl) ?_
      simp only [Act.put, List.setIfInBounds_toArray, List.set_cons_zero, List.set_cons_succ]
      refine hK _ _ (hS.alloc (by simp) _) fun _ => ?_
      clear hK K
      refine oneH 1 rfl rfl (by kernel_rfl) fun K hK => ?_
      refine wpH_call (some 11) rfl 104 #[.string (B b)] (by kernel_rfl) _ _ (hread (w.drew.alloc (.cells (nums .u8 (zeros 16)) 149))) fun W11 hW11 => ?_
      simp only [Act.put, List.setIfInBounds_toArray, List.set_cons_zero, List.set_cons_succ]
      have hS11 : Below w.heap.size w W11 := (hS.alloc (by simp) _).trans (hW11.mono (by simp))
      have hz11 : w.heap.size ≤ W11.heap.size := hS11.size
      have hh11 := below_heap hW11 (by simp) (heap_alloc_last w.drew (.cells (nums .u8 (zeros 16)) 149))
      have hb11 : w.drew.heap.size < W11.heap.size := Nat.lt_of_lt_of_le (by simp) hW11.size
      refine hK _ _ hS11 fun _ => ?_
      clear hK K
      refine oneH 8 rfl rfl (by kernel_rfl) fun K hK => ?_
      refine wpH_call (some 18) rfl 105 #[.agg V0, .agg V1] (by kernel_rfl) _ _ (hadd W11) fun W18 hW18 => ?_
      simp only [Act.put, List.setIfInBounds_toArray, List.set_cons_zero, List.set_cons_succ]
      have hS18 : Below w.heap.size w W18 := hS11.trans (hW18.mono hz11)
      refine hK _ _ hS18 fun _ => ?_
      clear hK K
      refine oneH 10 rfl rfl (by kernel_rfl) fun K hK => ?_
      refine wpH_store rfl 149 (.tmp 5) (.tmp 18) rfl w.drew.heap.size (nums .u8 (stN r ws b 0)) (nums .u8 (zeros 16)) 149 rfl rfl (below_heap hW18 hb11 hh11) hi0 ho0 h10 ?_
      have hfin : Below w.heap.size w (W18.setRow w.drew.heap.size (nums .u8 (stN r ws b 0))) := setRow_below _ (Nat.le_refl _) (hS18)
      refine hK _ _ hfin fun _ => ?_
      refine wpAnyH_done (by kernel_rfl) ?_ _
      have hrow := setRow_heap W18 w.drew.heap.size (nums .u8 (zeros 16)) (nums .u8 (stN r ws b 0)) 149 (0, 0) (below_heap hW18 hb11 hh11)
      have HF := Lib.hid hfin
      have HROW := Lib.hid hrow
      clear hfin hrow hK K
      generalize W18.setRow w.drew.heap.size (nums .u8 (stN r ws b 0)) = WF at *
      go_wp2
      go_meet
      case rel => exact ⟨w.drew.heap.size, rfl, Nat.le_refl _, HROW.out, HF.out⟩
  case rest =>
    obtain ⟨bk, rfl, hbk, hrow, hbel⟩ := hcut
    have HROW0 := Lib.hid hrow
    have HBEL0 := Lib.hid hbel
    clear hrow hbel
    go_wp2
    go_loopw [6] (fun s6 wr => ∃ n : Nat, n ≤ r ∧ s6 = .int .i64 ((n : Int) + 1) ∧ wr.heap[bk]? = some (.cells (nums .u8 (stN r ws b n)) 149 (0, 0)) ∧ Below w.heap.size w wr) (fun s _ => r + 1 - (intOf s).toNat)
    case atStart => exact ⟨0, by omega, rfl, HROW0.out, HBEL0.out⟩
    case round =>
      obtain ⟨n, hn, rfl, hrW, hbW⟩ := hrel
      have hsl : (stN r ws b n).length = 16 := stN_length r ws b n
      have hsb : Bytes (stN r ws b n) := stN_bytes hws b n
      have hc0 : wr.cell? ⟨cb, 0, none⟩ = some (.int .i64 r) := by
        rw [cell_of_row wr cb 0 _ _ _ (below_heap hbW hlt HCB.out)]; exact ciph_0 _ _ _ _
      have HSB := Lib.hid hsb
      have hnext : stN r ws b (n + 1) = roundF r ws (n + 1) (stN r ws b n) := rfl
      have HNEXT := Lib.hid hnext
      clear hnext hsb
      by_cases hnr : n = r
      · have hnl : ¬ (n : Int) + 1 ≤ (r : Int) := by omega
        have HNR := Lib.hid hnr
        clear hnr
        have HRW := Lib.hid hrW
        have HBW := Lib.hid hbW
        clear hrW hbW
        go_upto_region 11 with fail
        apply wp_region_lit
        refine wpList_load_rowTo rfl (some 51) rfl 149 _ rfl bk rfl (nums .u8 (stN r ws b n)) 149 (0, 0) HRW.out (.array 4 147) Tryz.underlying149 rfl (by rw [nums_size, hsl]; kernel_rfl) ?_
        have HWR := Lib.hid (fun W => write_any (stN r ws b n) W hsl)
        clear hc0
        go_wp2_with fail
        refine Calls.ext (HWR.out _) fun u => ?_
        go_wp2
        go_ret
        refine ⟨by rw [HNR.out]; rfl, ?_⟩
        exact Proofs.YtlbpodddokhmaaaGreat.Below.ext HBW.out HBW.out.size u
      · have hnl : (n : Int) + 1 ≤ (r : Int) := by omega
        have hnr' : n + 1 ≤ r := by omega
        have hnb : (n : Int) < 1000 := by
          have := HR.out
          omega
        generalize stN r ws b n = s at *
        go_upto_region 7 with fail
        go_cut [5] from 27 to 32 (fun s5 wx => s5 = .pointer (some ⟨bk, 0, none⟩) ∧ wx.heap[bk]? = some (.cells (nums .u8 (tab (turnF (tab (thrF subT s) 16)) 16)) 149 (0, 0)) ∧ Below w.heap.size w wx)
        case first =>
          refine wp_region_held (S := fun w' => Below w.heap.size w w') (by kernel_rfl) ?_
          have hS : Below w.heap.size w wr.drew := hbW.drew
          have hH : wr.drew.heap[bk]? = some (.cells (nums .u8 s) 149 (0, 0)) := hrW
          have hiS : (Tryz.prog.info? 149).map (·.size) = some (nums .u8 s).size := by rw [nums_size, hsl]; kernel_rfl
          change wpAnyH _ _ _ _ _ _ _ _ wr.drew
          refine takeH 1 rfl rfl (some 28) rfl (.pointer (some ⟨cb, 0, none⟩)) (by kernel_rfl) (by kernel_rfl) (by kernel_rfl) (fun _ _ _ h => h) (fun _ _ => rfl) hS ?_
          simp only [Act.put, List.setIfInBounds_toArray, List.set_cons_zero, List.set_cons_succ]
          refine takeH 2 rfl rfl (some 29) rfl (.pointer (some ⟨cb, 0, none⟩)) (by kernel_rfl) (by kernel_rfl) (by kernel_rfl) (fun _ _ _ h => h) (fun _ _ => rfl) hS ?_
          simp only [Act.put, List.setIfInBounds_toArray, List.set_cons_zero, List.set_cons_succ]
          refine takeH 3 rfl rfl (some 30) rfl (.pointer (some ⟨cb, 2, none⟩)) (by kernel_rfl) (by kernel_rfl) (by kernel_rfl) (fun _ _ _ h => h) (fun _ _ => by kernel_rfl) hS ?_
          simp only [Act.put, List.setIfInBounds_toArray, List.set_cons_zero, List.set_cons_succ]
          have hthr := fun W (hW : Below w.heap.size w W) => through_any subT s cb 2 W hsl HSB.out (tabAt_sub HCB.out hlt hW)
          have hturn := fun W => turn_any (tab (thrF subT s) 16) W (tab_length _ _)
          refine oneH 0 rfl rfl (by kernel_rfl) fun K hK => ?_
          refine wpH_run (some 27) rfl (.agg (nums .u8 s)) (run_load_row 149 (.tmp 5) rfl bk rfl (nums .u8 s) 149 (0, 0) hH (.array 4 147) Tryz.underlying149 rfl hiS) ?_
          simp only [Act.put, List.setIfInBounds_toArray, List.set_cons_zero, List.set_cons_succ]
          refine hK _ _ hS fun _ => ?_
          clear hK K
          refine oneH 4 rfl rfl (by kernel_rfl) fun K hK => ?_
          refine wpH_call (some 31) rfl 106 #[.agg (nums .u8 s), .pointer (some ⟨cb, 2, none⟩)] (by kernel_rfl) _ _ (hthr wr.drew hS) fun W31 hW31 => ?_
          simp only [Act.put, List.setIfInBounds_toArray, List.set_cons_zero, List.set_cons_succ]
          have hS31 : Below w.heap.size w W31 := hS.trans (hW31.mono hS.size)
          have hH31 := below_heap hW31 (lt_of_heap hH) hH
          refine hK _ _ hS31 fun _ => ?_
          clear hK K
          refine oneH 5 rfl rfl (by kernel_rfl) fun K hK => ?_
          refine wpH_call (some 32) rfl 107 #[.agg (nums .u8 (tab (thrF subT s) 16)), .int .i64 1] (by kernel_rfl) _ _ (hturn W31) fun W32 hW32 => ?_
          simp only [Act.put, List.setIfInBounds_toArray, List.set_cons_zero, List.set_cons_succ]
          have hS32 : Below w.heap.size w W32 := hS31.trans (hW32.mono hS31.size)
          have hH32 := below_heap hW32 (lt_of_heap hH31) hH31
          refine hK _ _ hS32 fun _ => ?_
          clear hK K
          refine oneH 6 rfl rfl (by kernel_rfl) fun K hK => ?_
          refine wpH_store rfl 149 (.tmp 5) (.tmp 32) rfl bk (nums .u8 (tab (turnF (tab (thrF subT s) 16)) 16)) (nums .u8 s) 149 rfl rfl hH32 (by rw [nums_size, tab_length]; kernel_rfl) (by rw [nums_size, nums_size, tab_length, hsl]) (nums_oneCell _ _) ?_
          have hrow := setRow_heap W32 bk (nums .u8 s) (nums .u8 (tab (turnF (tab (thrF subT s) 16)) 16)) 149 (0, 0) hH32
          have hfin : Below w.heap.size w (W32.setRow bk (nums .u8 (tab (turnF (tab (thrF subT s) 16)) 16))) := setRow_below _ hbk hS32
          refine hK _ _ hfin fun _ => ?_
          refine wpAnyH_done (by kernel_rfl) ?_ _
          clear hK K
          generalize W32.setRow bk (nums .u8 (tab (turnF (tab (thrF subT s) 16)) 16)) = WN at *
          have HROWN := Lib.hid hrow
          have HFINN := Lib.hid hfin
          clear hrow hfin hthr hturn hW31 hS31 hH31 hW32 hS32 hH32 hS hH hiS
          go_wp2
          go_meet
          case rel => exact ⟨rfl, HROWN.out, HFINN.out⟩
        case rest =>
          obtain ⟨rfl, hrT, hbT⟩ := hcut
          have hc0T : wc.cell? ⟨cb, 0, none⟩ = some (.int .i64 r) := by
            rw [cell_of_row wc cb 0 _ _ _ (below_heap hbT hlt HCB.out)]; exact ciph_0 _ _ _ _
          have htl : (tab (turnF (tab (thrF subT s) 16)) 16).length = 16 := tab_length _ _
          have htb : Bytes (tab (turnF (tab (thrF subT s) 16)) 16) := turnT_bytes s
          clear hrW hbW hc0 hsl
          generalize ht' : tab (turnF (tab (thrF subT s) 16)) 16 = t at *
          have HT' := Lib.hid ht'
          have HTB := Lib.hid htb
          have HRT := Lib.hid hrT
          have HBT := Lib.hid hbT
          clear ht' htb hrT hbT
          by_cases hlast : n + 1 < r
          · have hlast' : (n : Int) + 1 < (r : Int) := by omega
            go_upto_region 9 with fail
            apply wp_region_lit
            refine wpList_load_rowTo rfl (some 39) rfl 149 _ rfl bk rfl (nums .u8 t) 149 (0, 0) HRT.out (.array 4 147) Tryz.underlying149 rfl (by rw [nums_size, htl]; kernel_rfl) ?_
            have HMIX := Lib.hid fun W => mix_any t [2, 3, 1, 1] W htl HTB.out rfl (bytes_four (by omega) (by omega) (by omega) (by omega))
            go_wp2_with fail
            refine Calls.ext (HMIX.out _) fun u => ?_
            go_wp2_with (with_reducible refine stop_store (t := 149) rfl ?_)
            refine Lib.hid ?_
            refine wpList_store_rowTo rfl 149 _ _ rfl rfl bk (nums .u8 (tab (mixF t [2, 3, 1, 1]) 16)) rfl rfl 149 (nums .u8 t) (heap_ext HRT.out) (by rw [nums_size, tab_length]; kernel_rfl) (by rw [nums_size, nums_size, tab_length, htl]) (nums_oneCell _ _) ?_
            have hrW := setRow_heap (ext wc u) bk (nums .u8 t) (nums .u8 (tab (mixF t [2, 3, 1, 1]) 16)) 149 (0, 0) (heap_ext HRT.out)
            have hbW : Below w.heap.size w ((ext wc u).setRow bk (nums .u8 (tab (mixF t [2, 3, 1, 1]) 16))) := setRow_below _ hbk (Proofs.YtlbpodddokhmaaaGreat.Below.ext HBT.out HBT.out.size u)
            generalize (ext wc u).setRow bk (nums .u8 (tab (mixF t [2, 3, 1, 1]) 16)) = wr2 at *
            have hsl : (tab (mixF t [2, 3, 1, 1]) 16).length = 16 := tab_length _ _
            have hsb : Bytes (tab (mixF t [2, 3, 1, 1]) 16) := mixT_bytes _ HTB.out
            have hround : stN r ws b (n + 1) = tab (addF (tab (mixF t [2, 3, 1, 1]) 16) (rk ws (n + 1))) 16 := by rw [HNEXT.out, roundF, HT'.out]; simp only [if_pos hlast]
            have HROUND := Lib.hid hround
            clear hround HMIX hc0T
            generalize tab (mixF t [2, 3, 1, 1]) 16 = s at *
            go_upto_region 10 with fail
            refine wp_region_held (S := fun w' => Below w.heap.size w w') (by kernel_rfl) ?_
            have hS : Below w.heap.size w wr2.drew := hbW.drew
            have hH : wr2.drew.heap[bk]? = some (.cells (nums .u8 s) 149 (0, 0)) := hrW
            have hiS : (Tryz.prog.info? 149).map (·.size) = some (nums .u8 s).size := by rw [nums_size, hsl]; kernel_rfl
            change wpAnyH _ _ _ _ _ _ _ _ wr2.drew
            refine takeH 1 rfl rfl (some 43) rfl (.pointer (some ⟨cb, 0, none⟩)) (by kernel_rfl) (by kernel_rfl) (by kernel_rfl) (fun _ _ _ h => h) (fun _ _ => rfl) hS ?_
            simp only [Act.put, List.setIfInBounds_toArray, List.set_cons_zero, List.set_cons_succ]
            refine takeH 2 rfl rfl (some 44) rfl (.pointer (some ⟨cb, 0, none⟩)) (by kernel_rfl) (by kernel_rfl) (by kernel_rfl) (fun _ _ _ h => h) (fun _ _ => rfl) hS ?_
            simp only [Act.put, List.setIfInBounds_toArray, List.set_cons_zero, List.set_cons_succ]
            refine takeH 3 rfl rfl (some 45) rfl (.pointer (some ⟨cb, 1, none⟩)) (by kernel_rfl) (by kernel_rfl) (by kernel_rfl) (fun _ _ _ h => h) (fun _ _ => by kernel_rfl) hS ?_
            simp only [Act.put, List.setIfInBounds_toArray, List.set_cons_zero, List.set_cons_succ]
            refine takeH 4 rfl rfl (some 46) rfl (.slice (some ⟨g, 0, none⟩) (r + 1) cap) (by kernel_rfl) (by kernel_rfl) (by kernel_rfl) (fun _ _ _ h => h) (fun w' hw => ?_) hS ?_
            · have h1 : w'.cell? ⟨cb, 1, none⟩ = some (.slice (some ⟨g, 0, none⟩) (r + 1) cap) := by
                rw [cell_of_row w' cb 1 _ _ _ (below_heap hw hlt HCB.out)]; exact ciph_1 _ _ _ _
              go_simp
            simp only [Act.put, List.setIfInBounds_toArray, List.set_cons_zero, List.set_cons_succ]
            refine takeH 5 rfl rfl (some 47) rfl (.int .i64 ((n : Int) + 1)) (by kernel_rfl) (by kernel_rfl) (by kernel_rfl) (fun _ _ _ h => h) (fun _ _ => rfl) hS ?_
            simp only [Act.put, List.setIfInBounds_toArray, List.set_cons_zero, List.set_cons_succ]
            refine takeH 6 rfl rfl (some 48) rfl (.pointer (some ⟨g, (n + 1) * 16, none⟩)) (by kernel_rfl) (by kernel_rfl) (by kernel_rfl) (fun _ _ _ h => h) (fun w' hw => ?_) hS ?_
            · go_simp
              intro h
              exfalso
              have := h (by omega)
              omega
            simp only [Act.put, List.setIfInBounds_toArray, List.set_cons_zero, List.set_cons_succ]
            refine takeH 7 rfl rfl (some 49) rfl (.agg (nums .u8 (rk ws (n + 1)))) (by kernel_rfl) (by kernel_rfl) (by kernel_rfl) (fun _ _ _ h => h) (fun w' hw => ?_) hS ?_
            · refine run_load_part 149 (.tmp 48) rfl g ((n + 1) * 16) rfl .u8 (rk ws (n + 1)) (fun j hj => ?_) (.array 4 147) Tryz.underlying149 rfl (by rw [rk_length]; kernel_rfl)
              rw [rk_length] at hj
              rw [hw.cell (p := ⟨g, (n + 1) * 16 + j, none⟩) hg, HCELL.out ((n + 1) * 16 + j) (by omega), rk, tab_get _ _ _ hj]
            simp only [Act.put, List.setIfInBounds_toArray, List.set_cons_zero, List.set_cons_succ]
            have hadd := fun W => add_any s (rk ws (n + 1)) W hsl (rk_length _ _) hsb (rk_bytes hws _)
            refine oneH 0 rfl rfl (by kernel_rfl) fun K hK => ?_
            refine wpH_run (some 42) rfl (.agg (nums .u8 s)) (run_load_row 149 (.tmp 5) rfl bk rfl (nums .u8 s) 149 (0, 0) hH (.array 4 147) Tryz.underlying149 rfl hiS) ?_
            simp only [Act.put, List.setIfInBounds_toArray, List.set_cons_zero, List.set_cons_succ]
            refine hK _ _ hS fun _ => ?_
            clear hK K
            refine oneH 8 rfl rfl (by kernel_rfl) fun K hK => ?_
            refine wpH_call (some 50) rfl 105 #[.agg (nums .u8 s), .agg (nums .u8 (rk ws (n + 1)))] (by kernel_rfl) _ _ (hadd wr2.drew) fun W50 hW50 => ?_
            simp only [Act.put, List.setIfInBounds_toArray, List.set_cons_zero, List.set_cons_succ]
            have hS50 : Below w.heap.size w W50 := hS.trans (hW50.mono hS.size)
            have hH50 := below_heap hW50 (lt_of_heap hH) hH
            refine hK _ _ hS50 fun _ => ?_
            clear hK K
            refine oneH 9 rfl rfl (by kernel_rfl) fun K hK => ?_
            refine wpH_store rfl 149 (.tmp 5) (.tmp 50) rfl bk (nums .u8 (tab (addF s (rk ws (n + 1))) 16)) (nums .u8 s) 149 rfl rfl hH50 (by rw [nums_size, tab_length]; kernel_rfl) (by rw [nums_size, nums_size, tab_length, hsl]) (nums_oneCell _ _) ?_
            have hrow := setRow_heap W50 bk (nums .u8 s) (nums .u8 (tab (addF s (rk ws (n + 1))) 16)) 149 (0, 0) hH50
            have hfin : Below w.heap.size w (W50.setRow bk (nums .u8 (tab (addF s (rk ws (n + 1))) 16))) := setRow_below _ hbk hS50
            refine hK _ _ hfin fun _ => ?_
            refine wpAnyH_done (by kernel_rfl) ?_ _
            clear hK K
            generalize W50.setRow bk (nums .u8 (tab (addF s (rk ws (n + 1))) 16)) = WN at *
            have HROWN := Lib.hid hrow
            have HFINN := Lib.hid hfin
            clear hrow hfin hadd hW50 hS50 hH50 hS hH hiS
            go_wp2
            go_round
            case rel => exact ⟨n + 1, by omega, by go_num, by rw [HROUND.out]; exact HROWN.out, HFINN.out⟩
            case measure => simp [intOf]; omega
          · have hlast' : ¬ (n : Int) + 1 < (r : Int) := by omega
            have hround : stN r ws b (n + 1) = tab (addF t (rk ws (n + 1))) 16 := by rw [HNEXT.out, roundF, HT'.out]; simp only [if_neg hlast]
            have HROUND := Lib.hid hround
            clear hround
            have hsl := htl
            have hsb := HTB.out
            have hrW := HRT.out
            have hbW := HBT.out
            clear htl HTB HRT HBT HT'
            generalize t = s at *
            generalize wc = wr2 at *
            go_upto_region 10 with fail
            clear hc0T
            refine wp_region_held (S := fun w' => Below w.heap.size w w') (by kernel_rfl) ?_
            have hS : Below w.heap.size w wr2.drew := hbW.drew
            have hH : wr2.drew.heap[bk]? = some (.cells (nums .u8 s) 149 (0, 0)) := hrW
            have hiS : (Tryz.prog.info? 149).map (·.size) = some (nums .u8 s).size := by rw [nums_size, hsl]; kernel_rfl
            change wpAnyH _ _ _ _ _ _ _ _ wr2.drew
            refine takeH 1 rfl rfl (some 43) rfl (.pointer (some ⟨cb, 0, none⟩)) (by kernel_rfl) (by kernel_rfl) (by kernel_rfl) (fun _ _ _ h => h) (fun _ _ => rfl) hS ?_
            simp only [Act.put, List.setIfInBounds_toArray, List.set_cons_zero, List.set_cons_succ]
            refine takeH 2 rfl rfl (some 44) rfl (.pointer (some ⟨cb, 0, none⟩)) (by kernel_rfl) (by kernel_rfl) (by kernel_rfl) (fun _ _ _ h => h) (fun _ _ => rfl) hS ?_
            simp only [Act.put, List.setIfInBounds_toArray, List.set_cons_zero, List.set_cons_succ]
            refine takeH 3 rfl rfl (some 45) rfl (.pointer (some ⟨cb, 1, none⟩)) (by kernel_rfl) (by kernel_rfl) (by kernel_rfl) (fun _ _ _ h => h) (fun _ _ => by kernel_rfl) hS ?_
            simp only [Act.put, List.setIfInBounds_toArray, List.set_cons_zero, List.set_cons_succ]
            refine takeH 4 rfl rfl (some 46) rfl (.slice (some ⟨g, 0, none⟩) (r + 1) cap) (by kernel_rfl) (by kernel_rfl) (by kernel_rfl) (fun _ _ _ h => h) (fun w' hw => ?_) hS ?_
            · have h1 : w'.cell? ⟨cb, 1, none⟩ = some (.slice (some ⟨g, 0, none⟩) (r + 1) cap) := by
                rw [cell_of_row w' cb 1 _ _ _ (below_heap hw hlt HCB.out)]; exact ciph_1 _ _ _ _
              go_simp
            simp only [Act.put, List.setIfInBounds_toArray, List.set_cons_zero, List.set_cons_succ]
            refine takeH 5 rfl rfl (some 47) rfl (.int .i64 ((n : Int) + 1)) (by kernel_rfl) (by kernel_rfl) (by kernel_rfl) (fun _ _ _ h => h) (fun _ _ => rfl) hS ?_
            simp only [Act.put, List.setIfInBounds_toArray, List.set_cons_zero, List.set_cons_succ]
            refine takeH 6 rfl rfl (some 48) rfl (.pointer (some ⟨g, (n + 1) * 16, none⟩)) (by kernel_rfl) (by kernel_rfl) (by kernel_rfl) (fun _ _ _ h => h) (fun w' hw => ?_) hS ?_
            · go_simp
              intro h
              exfalso
              have := h (by omega)
              omega
            simp only [Act.put, List.setIfInBounds_toArray, List.set_cons_zero, List.set_cons_succ]
            refine takeH 7 rfl rfl (some 49) rfl (.agg (nums .u8 (rk ws (n + 1)))) (by kernel_rfl) (by kernel_rfl) (by kernel_rfl) (fun _ _ _ h => h) (fun w' hw => ?_) hS ?_
            · refine run_load_part 149 (.tmp 48) rfl g ((n + 1) * 16) rfl .u8 (rk ws (n + 1)) (fun j hj => ?_) (.array 4 147) Tryz.underlying149 rfl (by rw [rk_length]; kernel_rfl)
              rw [rk_length] at hj
              rw [hw.cell (p := ⟨g, (n + 1) * 16 + j, none⟩) hg, HCELL.out ((n + 1) * 16 + j) (by omega), rk, tab_get _ _ _ hj]
            simp only [Act.put, List.setIfInBounds_toArray, List.set_cons_zero, List.set_cons_succ]
            have hadd := fun W => add_any s (rk ws (n + 1)) W hsl (rk_length _ _) hsb (rk_bytes hws _)
            refine oneH 0 rfl rfl (by kernel_rfl) fun K hK => ?_
            refine wpH_run (some 42) rfl (.agg (nums .u8 s)) (run_load_row 149 (.tmp 5) rfl bk rfl (nums .u8 s) 149 (0, 0) hH (.array 4 147) Tryz.underlying149 rfl hiS) ?_
            simp only [Act.put, List.setIfInBounds_toArray, List.set_cons_zero, List.set_cons_succ]
            refine hK _ _ hS fun _ => ?_
            clear hK K
            refine oneH 8 rfl rfl (by kernel_rfl) fun K hK => ?_
            refine wpH_call (some 50) rfl 105 #[.agg (nums .u8 s), .agg (nums .u8 (rk ws (n + 1)))] (by kernel_rfl) _ _ (hadd wr2.drew) fun W50 hW50 => ?_
            simp only [Act.put, List.setIfInBounds_toArray, List.set_cons_zero, List.set_cons_succ]
            have hS50 : Below w.heap.size w W50 := hS.trans (hW50.mono hS.size)
            have hH50 := below_heap hW50 (lt_of_heap hH) hH
            refine hK _ _ hS50 fun _ => ?_
            clear hK K
            refine oneH 9 rfl rfl (by kernel_rfl) fun K hK => ?_
            refine wpH_store rfl 149 (.tmp 5) (.tmp 50) rfl bk (nums .u8 (tab (addF s (rk ws (n + 1))) 16)) (nums .u8 s) 149 rfl rfl hH50 (by rw [nums_size, tab_length]; kernel_rfl) (by rw [nums_size, nums_size, tab_length, hsl]) (nums_oneCell _ _) ?_
            have hrow := setRow_heap W50 bk (nums .u8 s) (nums .u8 (tab (addF s (rk ws (n + 1))) 16)) 149 (0, 0) hH50
            have hfin : Below w.heap.size w (W50.setRow bk (nums .u8 (tab (addF s (rk ws (n + 1))) 16))) := setRow_below _ hbk hS50
            refine hK _ _ hfin fun _ => ?_
            refine wpAnyH_done (by kernel_rfl) ?_ _
            clear hK K
            generalize W50.setRow bk (nums .u8 (tab (addF s (rk ws (n + 1))) 16)) = WN at *
            have HROWN := Lib.hid hrow
            have HFINN := Lib.hid hfin
            clear hrow hfin hadd hW50 hS50 hH50 hS hH hiS
            go_wp2
            go_round
            case rel => exact ⟨n + 1, by omega, by go_num, by rw [HROUND.out]; exact HROWN.out, HFINN.out⟩
            case measure => simp [intOf]; omega
end Go.Proofs.YtlbpodddokhmaaaGreat.Aes
