/-
  HmacKeys: zero bytes behind a key, up to a block, do not change the code; a longer key acts as its digest.
  Conditions: none (the package's two tables are as the program's text lays them: the card ties that).
-/
import Derived.Test.YtpgadpnaekhiaaaDoorRsE
import Derived.Test.YtpgadpnaekhiaaaDoorOpen
import Derived.Test.YtpgadpnaekhiaaaDoorOpen2
import Derived.Test.YtpgadpnaekhiaaaDoorTie
import Derived.Test.YtpgadpnaekhiaaaDoorCards
import Derived.SevenTiedAt
namespace Go.Proofs.YtpgadpnaekhiaaaDoor.HmacKeys
open Go.ChangeShapes Go.WideShapes Go.ChangeAt Go.RowKit Go.Deep Go.Proofs.YtpgadpnaekhiaaaDoor.Hm
open Go.Proofs.YtpgadpnaekhiaaaDoor.Sha (GlobAt zeros zeros_length)
open Go.Proofs.YtpgadpnaekhiaaaDoor.Sha32 (Z Z_length)
theorem hmac_long (size : Nat) (key t : List UInt8) (h : Hm.Good size) (hl : blkN size < key.length) : hmacB size (digest size key) t = hmacB size key t := by
  have hd := digest_length size key h
  have hb := blk_bounds size h
  have e : fillK size (digest size key) = fillK size key := by
    unfold fillK
    simp only [if_pos hl, if_neg (show ¬ blkN size < (digest size key).length by omega)]
  unfold hmacB
  rw [e]
theorem hmac_pad (size : Nat) (key t : List UInt8) (k : Nat) (hl : key.length + k ≤ blkN size) : hmacB size (key ++ (zeros k).map UInt8.ofNat) t = hmacB size key t := by
  have hz : (zeros k).map UInt8.ofNat = Z k := by simp [zeros, Z]
  have e : fillK size (key ++ Z k) = fillK size key := by
    unfold fillK
    simp only [if_neg (show ¬ blkN size < (key ++ Z k).length by rw [List.length_append, Z_length]; omega), if_neg (show ¬ blkN size < key.length by omega)]
    rw [List.length_append, Z_length, List.append_assoc]
    congr 1
    unfold Z
    rw [List.replicate_append_replicate]
    congr 1
    omega
  rw [hz]
  unfold hmacB
  rw [e]
theorem cell_below {w w' : World} {b : Nat} {v : Value} (h : w.cell? ⟨b, 0, none⟩ = some v) (hb : Below w.heap.size w w') : w'.cell? ⟨b, 0, none⟩ = some v := by
  rw [hb.cell (p := ⟨b, 0, none⟩) (World.block_lt_of_cell? w ⟨b, 0, none⟩ h)]; exact h
theorem runEqT {o : Oper} {a : Act} {w : World} (x y : Operand) (tp : TypeId) (ho : o.op = .binOp .eql 9 x y tp) {s : ByteArray} (hx : a.eval x = .string s) (hy : a.eval y = .string s) :
    (execOp a.eval o).run Tryd.prog w = .ok (.value (.bool true)) w := by
  unfold execOp
  simp only [ho, hx, hy]
  go_simp
/-- Three operations that may come up. -/
theorem threeH {P : Program} {ops : Array Oper} {Q : Exit → Act → World → Prop} {md : Region.Mode} {S : World → Prop} (i j k : Nat) {oi oj ok : Oper} {fuel : Nat} {listed : Array Bool} {a : Act} {w : World} (hi : ops[i]? = some oi) (hj : ops[j]? = some oj) (hk : ops[k]? = some ok) (hgd : oi.guard = none) (hgj : oj.guard = none) (hgk : ok.guard = none) (hr : Region.ready md ops listed = [i, j, k])
    (h : ∀ K : Act → World → Prop, (∀ a' w', S w' → (S w' → wpAnyH P md ops Q S fuel (listed.setIfInBounds i true) a' w') → K a' w') → oi.wp P a w K Q)
    (h2 : ∀ K : Act → World → Prop, (∀ a' w', S w' → (S w' → wpAnyH P md ops Q S fuel (listed.setIfInBounds j true) a' w') → K a' w') → oj.wp P a w K Q)
    (h3 : ∀ K : Act → World → Prop, (∀ a' w', S w' → (S w' → wpAnyH P md ops Q S fuel (listed.setIfInBounds k true) a' w') → K a' w') → ok.wp P a w K Q) : wpAnyH P md ops Q S (fuel + 1) listed a w := by
  refine wpAnyH_ready hr (by simp) (AllReadyH.cons hi (fun K hK => ?_) (AllReadyH.cons hj (fun K hK => ?_) (AllReadyH.cons hk (fun K hK => ?_) AllReadyH.nil)))
  · rw [if_pos (by simp [Region.wanted, hgd])]
    exact h K hK.out
  · rw [if_pos (by simp [Region.wanted, hgj])]
    exact h2 K hK.out
  · rw [if_pos (by simp [Region.wanted, hgk])]
    exact h3 K hK.out
set_option maxHeartbeats 3200000 in
set_option maxRecDepth 100000 in
theorem keys_long (p r : Nat) (key t : List UInt8) (w : World) (hg : GlobAt w) (_hp : p < 256) (hr : r < 256) (hk3 : (key.length : Int) ≤ 300) (ht2 : (t.length : Int) ≤ 200) (hlong : blkN (sizeL (p % 3)) < key.length) :
    Calls Tryd.prog 6 #[.agg #[.int .u8 (p : Int), .int .u8 (r : Int)], .string (B key), .string (B t)] w fun e w' => e = .returned (.bool true) ∧ Below w.heap.size w w' := by
  have H0 := Lib.hid awake6_any
  have hb0 : Below w.heap.size w (w.alloc (.cells #[.int .u8 (p : Int), .int .u8 (r : Int)] 30)) := (Below.refl w.heap.size w).alloc (Nat.le_refl _) _
  have hin : (w.alloc (.cells #[.int .u8 (p : Int), .int .u8 (r : Int)] 30)).heap[w.heap.size]? = some (.cells #[.int .u8 (p : Int), .int .u8 (r : Int)] 30 (0, 0)) := heap_alloc_last w _
  have hwl : w.heap.size < (w.alloc (.cells #[.int .u8 (p : Int), .int .u8 (r : Int)] 30)).heap.size := by simp
  have HG := Lib.hid hg
  clear hg
  have HZ := Lib.hid fun W => size6_any p W
  have hgd := size_good (p % 3) (Nat.mod_lt _ (by omega))
  generalize sizeL (p % 3) = size at *
  have hsz := good_not hgd
  have hbb := blk_bounds size hgd
  have HBK := Lib.hid fun W => RefBlock_any size W hgd
  have HS1 := Lib.hid fun b W hW hc => hmac_one size key t b W hgd hW (by omega) (by omega) hc
  have HR := Lib.hid fun W => Ref_any size key W hgd (by omega)
  have hdl := digest_length size key hgd
  have HS2 := Lib.hid fun b W hW hc => hmac_one size (digest size key) t b W hgd hW (by omega) (by omega) hc
  rw [hmac_long size key t hgd hlong] at HS2
  have hli : (blkN size : Int) < (key.length : Int) := by omega
  generalize hmacB size key t = d at *
  generalize digest size key = dg at *
  generalize blkN size = bn at *
  clear hdl hlong hgd
  go_enter Tryd.func6, Tryd.ntmps6
  go_wp2_with fail
  refine Calls.below (H0.out _ (HG.out.below hb0)) fun W1 hW1 => ?_
  have hc1 : W1.cell? ⟨w.heap.size, 0, none⟩ = some (.int .u8 (p : Int)) := by rw [hW1.cell (p := ⟨w.heap.size, 0, none⟩) hwl, cell_of_row _ _ _ _ _ _ hin]; rfl
  have hb1 := hb0.trans (hW1.mono hb0.size)
  clear hW1
  go_wp2_with fail
  refine Calls.below (HZ.out _) fun W2 hW2 => ?_
  have hb2 := hb1.trans (hW2.mono hb1.size)
  clear hW2 hc1
  go_wp2_with fail
  refine Calls.mono (HBK.out _) ?_
  rintro _ _ ⟨rfl, rfl⟩
  go_wp2_with fail
  refine Calls.below (HS1.out _ _ ((HG.out.below hb2).below ((Below.refl _ _).alloc (Nat.le_refl _) _)) (by rw [World.cell?_alloc_new]; rfl)) fun W3 hW3 => ?_
  have hb3 := (hb2.alloc hb2.size (.cells #[.string (B t)] 9)).trans (hW3.mono (hb2.alloc hb2.size _).size)
  clear hW3
  go_wp2_with fail
  refine Calls.below (HR.out _) fun W4 hW4 => ?_
  have hb4 := hb3.trans (hW4.mono hb3.size)
  clear hW4
  go_wp2_with fail
  refine Calls.below (HS2.out _ _ ((HG.out.below hb4).below ((Below.refl _ _).alloc (Nat.le_refl _) _)) (by rw [World.cell?_alloc_new]; rfl)) fun W5 hW5 => ?_
  have hb5 := (hb4.alloc hb4.size (.cells #[.string (B t)] 9)).trans (hW5.mono (hb4.alloc hb4.size _).size)
  clear hW5
  go_wp2
  go_ret
  exact ⟨by simp, hb5⟩
set_option maxHeartbeats 3200000 in
set_option maxRecDepth 100000 in
theorem keys_short (p r : Nat) (key t : List UInt8) (w : World) (hg : GlobAt w) (_hp : p < 256) (hr : r < 256) (hk3 : (key.length : Int) ≤ 300) (ht2 : (t.length : Int) ≤ 200) (hlong : ¬ blkN (sizeL (p % 3)) < key.length) :
    Calls Tryd.prog 6 #[.agg #[.int .u8 (p : Int), .int .u8 (r : Int)], .string (B key), .string (B t)] w fun e w' => e = .returned (.bool true) ∧ Below w.heap.size w w' := by
  have H0 := Lib.hid awake6_any
  have hb0 : Below w.heap.size w (w.alloc (.cells #[.int .u8 (p : Int), .int .u8 (r : Int)] 30)) := (Below.refl w.heap.size w).alloc (Nat.le_refl _) _
  have hin : (w.alloc (.cells #[.int .u8 (p : Int), .int .u8 (r : Int)] 30)).heap[w.heap.size]? = some (.cells #[.int .u8 (p : Int), .int .u8 (r : Int)] 30 (0, 0)) := heap_alloc_last w _
  have hwl : w.heap.size < (w.alloc (.cells #[.int .u8 (p : Int), .int .u8 (r : Int)] 30)).heap.size := by simp
  have HG := Lib.hid hg
  clear hg
  have HZ := Lib.hid fun W => size6_any p W
  have hgd := size_good (p % 3) (Nat.mod_lt _ (by omega))
  generalize sizeL (p % 3) = size at *
  have hsz := good_not hgd
  have hbb := blk_bounds size hgd
  have HBK := Lib.hid fun W => RefBlock_any size W hgd
  have HS1 := Lib.hid fun b W hW hc => hmac_one size key t b W hgd hW (by omega) (by omega) hc
  have hli : ¬ (blkN size : Int) < (key.length : Int) := by omega
  obtain ⟨x, hx⟩ : ∃ x, blkN size - key.length = x := ⟨_, rfl⟩
  have hxi : (blkN size : Int) - (key.length : Int) = (x : Int) := by omega
  obtain ⟨L, hL⟩ : ∃ L, x + 1 = L := ⟨_, rfl⟩
  have hLi : (x : Int) + 1 = (L : Int) := by omega
  have hL0 : ¬ L = 0 := by omega
  have hL0i : ¬ (L : Int) = 0 := by omega
  obtain ⟨k, hk⟩ : ∃ k, r % L = k := ⟨_, rfl⟩
  have hkL : k < L := by rw [← hk]; exact Nat.mod_lt _ (by omega)
  have hkl : k ≤ 1000000 := by omega
  have htm : (r : Int).tmod (L : Int) = (k : Int) := by rw [Int.tmod_eq_emod_of_nonneg (Int.natCast_nonneg _), ← hk]; simp
  have hcl : key.length + ((zeros k).map UInt8.ofNat).length ≤ 2000000 := by rw [List.length_map, zeros_length]; omega
  have HS2 := Lib.hid fun b W hW hc => hmac_one size (key ++ (zeros k).map UInt8.ofNat) t b W hgd hW (by rw [List.length_append, List.length_map, zeros_length]; omega) (by omega) hc
  rw [hmac_pad size key t k (by omega)] at HS2
  have HK2 := Lib.hid (show key ++ (zeros k).map UInt8.ofNat = key ++ (zeros k).map UInt8.ofNat from rfl)
  generalize hk2 : key ++ (zeros k).map UInt8.ofNat = k2 at HS2 HK2
  clear HK2
  have HK2 := Lib.hid hk2
  clear hk2
  generalize hmacB size key t = d at *
  generalize blkN size = bn at *
  have hwk : wrap64 (k : Int) = (k : Int) := by unfold wrap64; omega
  have hwr : IntKind.i64.wrap (r : Int) = (r : Int) := by simp [IntKind.wrap, IntKind.bits, IntKind.signed]; omega
  clear hx hL hk hgd
  go_enter Tryd.func6, Tryd.ntmps6
  go_wp2_with fail
  refine Calls.below (H0.out _ (HG.out.below hb0)) fun W1 hW1 => ?_
  have hc1 : W1.cell? ⟨w.heap.size, 0, none⟩ = some (.int .u8 (p : Int)) := by rw [hW1.cell (p := ⟨w.heap.size, 0, none⟩) hwl, cell_of_row _ _ _ _ _ _ hin]; rfl
  have hc2 : W1.cell? ⟨w.heap.size, 1, none⟩ = some (.int .u8 (r : Int)) := by rw [hW1.cell (p := ⟨w.heap.size, 1, none⟩) hwl, cell_of_row _ _ _ _ _ _ hin]; rfl
  have hb1 := hb0.trans (hW1.mono hb0.size)
  have hwl1 : w.heap.size < W1.heap.size := Nat.lt_of_lt_of_le hwl hW1.size
  clear hW1
  go_wp2_with fail
  refine Calls.below (HZ.out _) fun W2 hW2 => ?_
  have hb2 := hb1.trans (hW2.mono hb1.size)
  rw [← hW2.cell (p := ⟨w.heap.size, 1, none⟩) hwl1] at hc2
  clear hW2 hc1
  go_wp2_with fail
  refine Calls.mono (HBK.out _) ?_
  rintro _ W0 ⟨rfl, rfl⟩
  go_upto_region 8 with fail
  have hS : Below w.heap.size w W2.drew := hb2.drew
  clear hc2 hin hb1 hb0 hwl hwl1 htm hxi hLi
  refine wp_region_held (S := fun W => Below w.heap.size w W) (by kernel_rfl) ?_
  change wpAnyH _ _ _ _ _ _ _ _ W2.drew
  refine takeH 0 rfl rfl (some 54) rfl (.int .i64 (size : Int)) (by kernel_rfl) (by kernel_rfl) (by kernel_rfl) (fun _ _ _ h => h) (fun _ _ => rfl) hS ?_
  simp only [Act.put, List.setIfInBounds_toArray, List.set_cons_zero, List.set_cons_succ]
  refine takeH 1 rfl rfl (some 55) rfl (.string (B key)) (by kernel_rfl) (by kernel_rfl) (by kernel_rfl) (fun _ _ _ h => h) (fun _ _ => rfl) hS ?_
  simp only [Act.put, List.setIfInBounds_toArray, List.set_cons_zero, List.set_cons_succ]
  refine takeH 2 rfl rfl (some 56) rfl (.string (B t)) (by kernel_rfl) (by kernel_rfl) (by kernel_rfl) (fun _ _ _ h => h) (fun _ _ => rfl) hS ?_
  simp only [Act.put, List.setIfInBounds_toArray, List.set_cons_zero, List.set_cons_succ]
  refine takeH 5 rfl rfl (some 59) rfl (.int .i64 (size : Int)) (by kernel_rfl) (by kernel_rfl) (by kernel_rfl) (fun _ _ _ h => h) (fun _ _ => rfl) hS ?_
  simp only [Act.put, List.setIfInBounds_toArray, List.set_cons_zero, List.set_cons_succ]
  refine takeH 6 rfl rfl (some 60) rfl (.string (B key)) (by kernel_rfl) (by kernel_rfl) (by kernel_rfl) (fun _ _ _ h => h) (fun _ _ => rfl) hS ?_
  simp only [Act.put, List.setIfInBounds_toArray, List.set_cons_zero, List.set_cons_succ]
  refine takeH 7 rfl rfl (some 61) rfl (.int .i64 (k : Int)) (by kernel_rfl) (by kernel_rfl) (by kernel_rfl) (fun _ _ _ h => h) (fun _ _ => rfl) hS ?_
  simp only [Act.put, List.setIfInBounds_toArray, List.set_cons_zero, List.set_cons_succ]
  refine takeH 11 rfl rfl (some 65) rfl (.string (B t)) (by kernel_rfl) (by kernel_rfl) (by kernel_rfl) (fun _ _ _ h => h) (fun _ _ => rfl) hS ?_
  simp only [Act.put, List.setIfInBounds_toArray, List.set_cons_zero, List.set_cons_succ]
  generalize W2.drew = W0 at *
  refine threeH 3 8 12 rfl rfl rfl rfl rfl rfl (by kernel_rfl) (fun K hK => ?_) (fun K hK => ?_) (fun K hK => ?_)
  · have hn : Below W0.heap.size W0 (W0.alloc (.cells #[.string (B t)] 9)) := (Below.refl _ _).alloc (Nat.le_refl _) _
    have hc3_1 : (W0.alloc (.cells #[.string (B t)] 9)).cell? ⟨W0.heap.size, 0, none⟩ = some (.string (B t)) := by rw [World.cell?_alloc_new]; rfl
    refine wpH_run (w' := W0.alloc (.cells #[.string (B t)] 9)) (some 57) rfl (.slice (some ⟨W0.heap.size, 0, none⟩) 1 1) (by kernel_rfl) ?_
    simp only [Act.put, List.setIfInBounds_toArray, List.set_cons_zero, List.set_cons_succ]
    have hS1 := hS.trans (hn.mono hS.size)
    refine hK _ _ hS1 fun _ => ?_
    clear hK K
    clear hn
    generalize W0.alloc (.cells #[.string (B t)] 9) = W1 at *
    generalize W0.heap.size = b1 at *
    refine threeH 4 8 12 rfl rfl rfl rfl rfl rfl (by kernel_rfl) (fun K hK => ?_) (fun K hK => ?_) (fun K hK => ?_)
    · refine wpH_call (some 58) rfl 13 #[.int .i64 (size : Int), .string (B key), .slice (some ⟨b1, 0, none⟩) 1 1] (by kernel_rfl) _ _ (HS1.out _ W1 (HG.out.below hS1) hc3_1) fun W2 hn => ?_
      simp only [Act.put, List.setIfInBounds_toArray, List.set_cons_zero, List.set_cons_succ]
      have hS2 := hS1.trans (hn.mono hS1.size)
      refine hK _ _ hS2 fun _ => ?_
      clear hK K
      clear hn
      refine twoH 8 12 rfl rfl rfl rfl (by kernel_rfl) (fun K hK => ?_) (fun K hK => ?_)
      · have hn : Below W2.heap.size W2 (W2.alloc (.cells (nums .u8 (zeros k)) 5)) := (Below.refl _ _).alloc (Nat.le_refl _) _
        have hc8_3 : NumsAt (W2.alloc (.cells (nums .u8 (zeros k)) 5)) W2.heap.size 5 .u8 (zeros k) := NumsAt.new W2 _ _ _
        refine wpH_run (w' := W2.alloc (.cells (nums .u8 (zeros k)) 5)) (some 62) rfl (.slice (some ⟨W2.heap.size, 0, none⟩) k k) (runMake _ _ rfl rfl rfl hkl) ?_
        simp only [Act.put, List.setIfInBounds_toArray, List.set_cons_zero, List.set_cons_succ]
        have hS3 := hS2.trans (hn.mono hS2.size)
        refine hK _ _ hS3 fun _ => ?_
        clear hK K
        clear hn
        generalize W2.alloc (.cells (nums .u8 (zeros k)) 5) = W3 at *
        generalize W2.heap.size = b3 at *
        refine twoH 9 12 rfl rfl rfl rfl (by kernel_rfl) (fun K hK => ?_) (fun K hK => ?_)
        · refine wpH_run (w' := W3) (some 63) rfl (.string (B ((zeros k).map UInt8.ofNat))) (runStr _ rfl rfl (zeros_length k) hc8_3) ?_
          simp only [Act.put, List.setIfInBounds_toArray, List.set_cons_zero, List.set_cons_succ]
          refine hK _ _ hS3 fun _ => ?_
          clear hK K
          refine takeH 10 rfl rfl (some 64) rfl (.string (B k2)) (by kernel_rfl) (by kernel_rfl) (by kernel_rfl) (fun _ _ _ h => h) (fun w1 _ => by rw [← HK2.out]; exact runCat _ _ _ rfl rfl rfl hcl) hS3 ?_
          simp only [Act.put, List.setIfInBounds_toArray, List.set_cons_zero, List.set_cons_succ]
          refine oneH 12 rfl rfl (by kernel_rfl) fun K hK => ?_
          have hn : Below W3.heap.size W3 (W3.alloc (.cells #[.string (B t)] 9)) := (Below.refl _ _).alloc (Nat.le_refl _) _
          have hc12_5 : (W3.alloc (.cells #[.string (B t)] 9)).cell? ⟨W3.heap.size, 0, none⟩ = some (.string (B t)) := by rw [World.cell?_alloc_new]; rfl
          refine wpH_run (w' := W3.alloc (.cells #[.string (B t)] 9)) (some 66) rfl (.slice (some ⟨W3.heap.size, 0, none⟩) 1 1) (by kernel_rfl) ?_
          simp only [Act.put, List.setIfInBounds_toArray, List.set_cons_zero, List.set_cons_succ]
          have hS5 := hS3.trans (hn.mono hS3.size)
          refine hK _ _ hS5 fun _ => ?_
          clear hK K
          clear hn
          generalize W3.alloc (.cells #[.string (B t)] 9) = W5 at *
          generalize W3.heap.size = b5 at *
          refine oneH 13 rfl rfl (by kernel_rfl) fun K hK => ?_
          refine wpH_call (some 67) rfl 13 #[.int .i64 (size : Int), .string (B k2), .slice (some ⟨b5, 0, none⟩) 1 1] (by kernel_rfl) _ _ (HS2.out _ W5 (HG.out.below hS5) hc12_5) fun Wz hWz => ?_
          simp only [Act.put, List.setIfInBounds_toArray, List.set_cons_zero, List.set_cons_succ]
          have hSz := hS5.trans (hWz.mono hS5.size)
          refine hK _ _ hSz fun _ => ?_
          clear hK K
          refine takeH 14 rfl rfl (some 68) rfl (.bool true) (by kernel_rfl) (by kernel_rfl) (by kernel_rfl) (fun _ _ _ h => h) (fun w1 _ => runEqT _ _ _ rfl rfl rfl) hSz ?_
          simp only [Act.put, List.setIfInBounds_toArray, List.set_cons_zero, List.set_cons_succ]
          refine takeH 15 rfl rfl (some 6) rfl (.bool true) (by kernel_rfl) (by kernel_rfl) (by kernel_rfl) (fun _ _ _ h => h) (fun _ _ => rfl) hSz ?_
          simp only [Act.put, List.setIfInBounds_toArray, List.set_cons_zero, List.set_cons_succ]
          refine wpAnyH_done (by kernel_rfl) ?_ _
          go_wp2
          go_ret
          exact ⟨rfl, hSz⟩
        · have hn : Below W3.heap.size W3 (W3.alloc (.cells #[.string (B t)] 9)) := (Below.refl _ _).alloc (Nat.le_refl _) _
          have hc12_6 : (W3.alloc (.cells #[.string (B t)] 9)).cell? ⟨W3.heap.size, 0, none⟩ = some (.string (B t)) := by rw [World.cell?_alloc_new]; rfl
          refine wpH_run (w' := W3.alloc (.cells #[.string (B t)] 9)) (some 66) rfl (.slice (some ⟨W3.heap.size, 0, none⟩) 1 1) (by kernel_rfl) ?_
          simp only [Act.put, List.setIfInBounds_toArray, List.set_cons_zero, List.set_cons_succ]
          have hS6 := hS3.trans (hn.mono hS3.size)
          refine hK _ _ hS6 fun _ => ?_
          clear hK K
          have hc8_6 := NumsAt.below hc8_3 hn
          clear hn
          generalize W3.alloc (.cells #[.string (B t)] 9) = W6 at *
          generalize W3.heap.size = b6 at *
          refine oneH 9 rfl rfl (by kernel_rfl) fun K hK => ?_
          refine wpH_run (w' := W6) (some 63) rfl (.string (B ((zeros k).map UInt8.ofNat))) (runStr _ rfl rfl (zeros_length k) hc8_6) ?_
          simp only [Act.put, List.setIfInBounds_toArray, List.set_cons_zero, List.set_cons_succ]
          refine hK _ _ hS6 fun _ => ?_
          clear hK K
          refine takeH 10 rfl rfl (some 64) rfl (.string (B k2)) (by kernel_rfl) (by kernel_rfl) (by kernel_rfl) (fun _ _ _ h => h) (fun w1 _ => by rw [← HK2.out]; exact runCat _ _ _ rfl rfl rfl hcl) hS6 ?_
          simp only [Act.put, List.setIfInBounds_toArray, List.set_cons_zero, List.set_cons_succ]
          refine oneH 13 rfl rfl (by kernel_rfl) fun K hK => ?_
          refine wpH_call (some 67) rfl 13 #[.int .i64 (size : Int), .string (B k2), .slice (some ⟨b6, 0, none⟩) 1 1] (by kernel_rfl) _ _ (HS2.out _ W6 (HG.out.below hS6) hc12_6) fun Wz hWz => ?_
          simp only [Act.put, List.setIfInBounds_toArray, List.set_cons_zero, List.set_cons_succ]
          have hSz := hS6.trans (hWz.mono hS6.size)
          refine hK _ _ hSz fun _ => ?_
          clear hK K
          refine takeH 14 rfl rfl (some 68) rfl (.bool true) (by kernel_rfl) (by kernel_rfl) (by kernel_rfl) (fun _ _ _ h => h) (fun w1 _ => runEqT _ _ _ rfl rfl rfl) hSz ?_
          simp only [Act.put, List.setIfInBounds_toArray, List.set_cons_zero, List.set_cons_succ]
          refine takeH 15 rfl rfl (some 6) rfl (.bool true) (by kernel_rfl) (by kernel_rfl) (by kernel_rfl) (fun _ _ _ h => h) (fun _ _ => rfl) hSz ?_
          simp only [Act.put, List.setIfInBounds_toArray, List.set_cons_zero, List.set_cons_succ]
          refine wpAnyH_done (by kernel_rfl) ?_ _
          go_wp2
          go_ret
          exact ⟨rfl, hSz⟩
      · have hn : Below W2.heap.size W2 (W2.alloc (.cells #[.string (B t)] 9)) := (Below.refl _ _).alloc (Nat.le_refl _) _
        have hc12_8 : (W2.alloc (.cells #[.string (B t)] 9)).cell? ⟨W2.heap.size, 0, none⟩ = some (.string (B t)) := by rw [World.cell?_alloc_new]; rfl
        refine wpH_run (w' := W2.alloc (.cells #[.string (B t)] 9)) (some 66) rfl (.slice (some ⟨W2.heap.size, 0, none⟩) 1 1) (by kernel_rfl) ?_
        simp only [Act.put, List.setIfInBounds_toArray, List.set_cons_zero, List.set_cons_succ]
        have hS8 := hS2.trans (hn.mono hS2.size)
        refine hK _ _ hS8 fun _ => ?_
        clear hK K
        clear hn
        generalize W2.alloc (.cells #[.string (B t)] 9) = W8 at *
        generalize W2.heap.size = b8 at *
        refine oneH 8 rfl rfl (by kernel_rfl) fun K hK => ?_
        have hn : Below W8.heap.size W8 (W8.alloc (.cells (nums .u8 (zeros k)) 5)) := (Below.refl _ _).alloc (Nat.le_refl _) _
        have hc8_9 : NumsAt (W8.alloc (.cells (nums .u8 (zeros k)) 5)) W8.heap.size 5 .u8 (zeros k) := NumsAt.new W8 _ _ _
        refine wpH_run (w' := W8.alloc (.cells (nums .u8 (zeros k)) 5)) (some 62) rfl (.slice (some ⟨W8.heap.size, 0, none⟩) k k) (runMake _ _ rfl rfl rfl hkl) ?_
        simp only [Act.put, List.setIfInBounds_toArray, List.set_cons_zero, List.set_cons_succ]
        have hS9 := hS8.trans (hn.mono hS8.size)
        refine hK _ _ hS9 fun _ => ?_
        clear hK K
        have hc12_9 := cell_below hc12_8 hn
        clear hn
        generalize W8.alloc (.cells (nums .u8 (zeros k)) 5) = W9 at *
        generalize W8.heap.size = b9 at *
        refine oneH 9 rfl rfl (by kernel_rfl) fun K hK => ?_
        refine wpH_run (w' := W9) (some 63) rfl (.string (B ((zeros k).map UInt8.ofNat))) (runStr _ rfl rfl (zeros_length k) hc8_9) ?_
        simp only [Act.put, List.setIfInBounds_toArray, List.set_cons_zero, List.set_cons_succ]
        refine hK _ _ hS9 fun _ => ?_
        clear hK K
        refine takeH 10 rfl rfl (some 64) rfl (.string (B k2)) (by kernel_rfl) (by kernel_rfl) (by kernel_rfl) (fun _ _ _ h => h) (fun w1 _ => by rw [← HK2.out]; exact runCat _ _ _ rfl rfl rfl hcl) hS9 ?_
        simp only [Act.put, List.setIfInBounds_toArray, List.set_cons_zero, List.set_cons_succ]
        refine oneH 13 rfl rfl (by kernel_rfl) fun K hK => ?_
        refine wpH_call (some 67) rfl 13 #[.int .i64 (size : Int), .string (B k2), .slice (some ⟨b8, 0, none⟩) 1 1] (by kernel_rfl) _ _ (HS2.out _ W9 (HG.out.below hS9) hc12_9) fun Wz hWz => ?_
        simp only [Act.put, List.setIfInBounds_toArray, List.set_cons_zero, List.set_cons_succ]
        have hSz := hS9.trans (hWz.mono hS9.size)
        refine hK _ _ hSz fun _ => ?_
        clear hK K
        refine takeH 14 rfl rfl (some 68) rfl (.bool true) (by kernel_rfl) (by kernel_rfl) (by kernel_rfl) (fun _ _ _ h => h) (fun w1 _ => runEqT _ _ _ rfl rfl rfl) hSz ?_
        simp only [Act.put, List.setIfInBounds_toArray, List.set_cons_zero, List.set_cons_succ]
        refine takeH 15 rfl rfl (some 6) rfl (.bool true) (by kernel_rfl) (by kernel_rfl) (by kernel_rfl) (fun _ _ _ h => h) (fun _ _ => rfl) hSz ?_
        simp only [Act.put, List.setIfInBounds_toArray, List.set_cons_zero, List.set_cons_succ]
        refine wpAnyH_done (by kernel_rfl) ?_ _
        go_wp2
        go_ret
        exact ⟨rfl, hSz⟩
    · have hn : Below W1.heap.size W1 (W1.alloc (.cells (nums .u8 (zeros k)) 5)) := (Below.refl _ _).alloc (Nat.le_refl _) _
      have hc8_11 : NumsAt (W1.alloc (.cells (nums .u8 (zeros k)) 5)) W1.heap.size 5 .u8 (zeros k) := NumsAt.new W1 _ _ _
      refine wpH_run (w' := W1.alloc (.cells (nums .u8 (zeros k)) 5)) (some 62) rfl (.slice (some ⟨W1.heap.size, 0, none⟩) k k) (runMake _ _ rfl rfl rfl hkl) ?_
      simp only [Act.put, List.setIfInBounds_toArray, List.set_cons_zero, List.set_cons_succ]
      have hS11 := hS1.trans (hn.mono hS1.size)
      refine hK _ _ hS11 fun _ => ?_
      clear hK K
      have hc3_11 := cell_below hc3_1 hn
      clear hn
      generalize W1.alloc (.cells (nums .u8 (zeros k)) 5) = W11 at *
      generalize W1.heap.size = b11 at *
      refine threeH 4 9 12 rfl rfl rfl rfl rfl rfl (by kernel_rfl) (fun K hK => ?_) (fun K hK => ?_) (fun K hK => ?_)
      · refine wpH_call (some 58) rfl 13 #[.int .i64 (size : Int), .string (B key), .slice (some ⟨b1, 0, none⟩) 1 1] (by kernel_rfl) _ _ (HS1.out _ W11 (HG.out.below hS11) hc3_11) fun W12 hn => ?_
        simp only [Act.put, List.setIfInBounds_toArray, List.set_cons_zero, List.set_cons_succ]
        have hS12 := hS11.trans (hn.mono hS11.size)
        refine hK _ _ hS12 fun _ => ?_
        clear hK K
        have hc8_12 := NumsAt.below hc8_11 hn
        clear hn
        refine twoH 9 12 rfl rfl rfl rfl (by kernel_rfl) (fun K hK => ?_) (fun K hK => ?_)
        · refine wpH_run (w' := W12) (some 63) rfl (.string (B ((zeros k).map UInt8.ofNat))) (runStr _ rfl rfl (zeros_length k) hc8_12) ?_
          simp only [Act.put, List.setIfInBounds_toArray, List.set_cons_zero, List.set_cons_succ]
          refine hK _ _ hS12 fun _ => ?_
          clear hK K
          refine takeH 10 rfl rfl (some 64) rfl (.string (B k2)) (by kernel_rfl) (by kernel_rfl) (by kernel_rfl) (fun _ _ _ h => h) (fun w1 _ => by rw [← HK2.out]; exact runCat _ _ _ rfl rfl rfl hcl) hS12 ?_
          simp only [Act.put, List.setIfInBounds_toArray, List.set_cons_zero, List.set_cons_succ]
          refine oneH 12 rfl rfl (by kernel_rfl) fun K hK => ?_
          have hn : Below W12.heap.size W12 (W12.alloc (.cells #[.string (B t)] 9)) := (Below.refl _ _).alloc (Nat.le_refl _) _
          have hc12_14 : (W12.alloc (.cells #[.string (B t)] 9)).cell? ⟨W12.heap.size, 0, none⟩ = some (.string (B t)) := by rw [World.cell?_alloc_new]; rfl
          refine wpH_run (w' := W12.alloc (.cells #[.string (B t)] 9)) (some 66) rfl (.slice (some ⟨W12.heap.size, 0, none⟩) 1 1) (by kernel_rfl) ?_
          simp only [Act.put, List.setIfInBounds_toArray, List.set_cons_zero, List.set_cons_succ]
          have hS14 := hS12.trans (hn.mono hS12.size)
          refine hK _ _ hS14 fun _ => ?_
          clear hK K
          clear hn
          generalize W12.alloc (.cells #[.string (B t)] 9) = W14 at *
          generalize W12.heap.size = b14 at *
          refine oneH 13 rfl rfl (by kernel_rfl) fun K hK => ?_
          refine wpH_call (some 67) rfl 13 #[.int .i64 (size : Int), .string (B k2), .slice (some ⟨b14, 0, none⟩) 1 1] (by kernel_rfl) _ _ (HS2.out _ W14 (HG.out.below hS14) hc12_14) fun Wz hWz => ?_
          simp only [Act.put, List.setIfInBounds_toArray, List.set_cons_zero, List.set_cons_succ]
          have hSz := hS14.trans (hWz.mono hS14.size)
          refine hK _ _ hSz fun _ => ?_
          clear hK K
          refine takeH 14 rfl rfl (some 68) rfl (.bool true) (by kernel_rfl) (by kernel_rfl) (by kernel_rfl) (fun _ _ _ h => h) (fun w1 _ => runEqT _ _ _ rfl rfl rfl) hSz ?_
          simp only [Act.put, List.setIfInBounds_toArray, List.set_cons_zero, List.set_cons_succ]
          refine takeH 15 rfl rfl (some 6) rfl (.bool true) (by kernel_rfl) (by kernel_rfl) (by kernel_rfl) (fun _ _ _ h => h) (fun _ _ => rfl) hSz ?_
          simp only [Act.put, List.setIfInBounds_toArray, List.set_cons_zero, List.set_cons_succ]
          refine wpAnyH_done (by kernel_rfl) ?_ _
          go_wp2
          go_ret
          exact ⟨rfl, hSz⟩
        · have hn : Below W12.heap.size W12 (W12.alloc (.cells #[.string (B t)] 9)) := (Below.refl _ _).alloc (Nat.le_refl _) _
          have hc12_15 : (W12.alloc (.cells #[.string (B t)] 9)).cell? ⟨W12.heap.size, 0, none⟩ = some (.string (B t)) := by rw [World.cell?_alloc_new]; rfl
          refine wpH_run (w' := W12.alloc (.cells #[.string (B t)] 9)) (some 66) rfl (.slice (some ⟨W12.heap.size, 0, none⟩) 1 1) (by kernel_rfl) ?_
          simp only [Act.put, List.setIfInBounds_toArray, List.set_cons_zero, List.set_cons_succ]
          have hS15 := hS12.trans (hn.mono hS12.size)
          refine hK _ _ hS15 fun _ => ?_
          clear hK K
          have hc8_15 := NumsAt.below hc8_12 hn
          clear hn
          generalize W12.alloc (.cells #[.string (B t)] 9) = W15 at *
          generalize W12.heap.size = b15 at *
          refine oneH 9 rfl rfl (by kernel_rfl) fun K hK => ?_
          refine wpH_run (w' := W15) (some 63) rfl (.string (B ((zeros k).map UInt8.ofNat))) (runStr _ rfl rfl (zeros_length k) hc8_15) ?_
          simp only [Act.put, List.setIfInBounds_toArray, List.set_cons_zero, List.set_cons_succ]
          refine hK _ _ hS15 fun _ => ?_
          clear hK K
          refine takeH 10 rfl rfl (some 64) rfl (.string (B k2)) (by kernel_rfl) (by kernel_rfl) (by kernel_rfl) (fun _ _ _ h => h) (fun w1 _ => by rw [← HK2.out]; exact runCat _ _ _ rfl rfl rfl hcl) hS15 ?_
          simp only [Act.put, List.setIfInBounds_toArray, List.set_cons_zero, List.set_cons_succ]
          refine oneH 13 rfl rfl (by kernel_rfl) fun K hK => ?_
          refine wpH_call (some 67) rfl 13 #[.int .i64 (size : Int), .string (B k2), .slice (some ⟨b15, 0, none⟩) 1 1] (by kernel_rfl) _ _ (HS2.out _ W15 (HG.out.below hS15) hc12_15) fun Wz hWz => ?_
          simp only [Act.put, List.setIfInBounds_toArray, List.set_cons_zero, List.set_cons_succ]
          have hSz := hS15.trans (hWz.mono hS15.size)
          refine hK _ _ hSz fun _ => ?_
          clear hK K
          refine takeH 14 rfl rfl (some 68) rfl (.bool true) (by kernel_rfl) (by kernel_rfl) (by kernel_rfl) (fun _ _ _ h => h) (fun w1 _ => runEqT _ _ _ rfl rfl rfl) hSz ?_
          simp only [Act.put, List.setIfInBounds_toArray, List.set_cons_zero, List.set_cons_succ]
          refine takeH 15 rfl rfl (some 6) rfl (.bool true) (by kernel_rfl) (by kernel_rfl) (by kernel_rfl) (fun _ _ _ h => h) (fun _ _ => rfl) hSz ?_
          simp only [Act.put, List.setIfInBounds_toArray, List.set_cons_zero, List.set_cons_succ]
          refine wpAnyH_done (by kernel_rfl) ?_ _
          go_wp2
          go_ret
          exact ⟨rfl, hSz⟩
      · refine wpH_run (w' := W11) (some 63) rfl (.string (B ((zeros k).map UInt8.ofNat))) (runStr _ rfl rfl (zeros_length k) hc8_11) ?_
        simp only [Act.put, List.setIfInBounds_toArray, List.set_cons_zero, List.set_cons_succ]
        refine hK _ _ hS11 fun _ => ?_
        clear hK K
        refine takeH 10 rfl rfl (some 64) rfl (.string (B k2)) (by kernel_rfl) (by kernel_rfl) (by kernel_rfl) (fun _ _ _ h => h) (fun w1 _ => by rw [← HK2.out]; exact runCat _ _ _ rfl rfl rfl hcl) hS11 ?_
        simp only [Act.put, List.setIfInBounds_toArray, List.set_cons_zero, List.set_cons_succ]
        refine twoH 4 12 rfl rfl rfl rfl (by kernel_rfl) (fun K hK => ?_) (fun K hK => ?_)
        · refine wpH_call (some 58) rfl 13 #[.int .i64 (size : Int), .string (B key), .slice (some ⟨b1, 0, none⟩) 1 1] (by kernel_rfl) _ _ (HS1.out _ W11 (HG.out.below hS11) hc3_11) fun W18 hn => ?_
          simp only [Act.put, List.setIfInBounds_toArray, List.set_cons_zero, List.set_cons_succ]
          have hS18 := hS11.trans (hn.mono hS11.size)
          refine hK _ _ hS18 fun _ => ?_
          clear hK K
          clear hn
          refine oneH 12 rfl rfl (by kernel_rfl) fun K hK => ?_
          have hn : Below W18.heap.size W18 (W18.alloc (.cells #[.string (B t)] 9)) := (Below.refl _ _).alloc (Nat.le_refl _) _
          have hc12_19 : (W18.alloc (.cells #[.string (B t)] 9)).cell? ⟨W18.heap.size, 0, none⟩ = some (.string (B t)) := by rw [World.cell?_alloc_new]; rfl
          refine wpH_run (w' := W18.alloc (.cells #[.string (B t)] 9)) (some 66) rfl (.slice (some ⟨W18.heap.size, 0, none⟩) 1 1) (by kernel_rfl) ?_
          simp only [Act.put, List.setIfInBounds_toArray, List.set_cons_zero, List.set_cons_succ]
          have hS19 := hS18.trans (hn.mono hS18.size)
          refine hK _ _ hS19 fun _ => ?_
          clear hK K
          clear hn
          generalize W18.alloc (.cells #[.string (B t)] 9) = W19 at *
          generalize W18.heap.size = b19 at *
          refine oneH 13 rfl rfl (by kernel_rfl) fun K hK => ?_
          refine wpH_call (some 67) rfl 13 #[.int .i64 (size : Int), .string (B k2), .slice (some ⟨b19, 0, none⟩) 1 1] (by kernel_rfl) _ _ (HS2.out _ W19 (HG.out.below hS19) hc12_19) fun Wz hWz => ?_
          simp only [Act.put, List.setIfInBounds_toArray, List.set_cons_zero, List.set_cons_succ]
          have hSz := hS19.trans (hWz.mono hS19.size)
          refine hK _ _ hSz fun _ => ?_
          clear hK K
          refine takeH 14 rfl rfl (some 68) rfl (.bool true) (by kernel_rfl) (by kernel_rfl) (by kernel_rfl) (fun _ _ _ h => h) (fun w1 _ => runEqT _ _ _ rfl rfl rfl) hSz ?_
          simp only [Act.put, List.setIfInBounds_toArray, List.set_cons_zero, List.set_cons_succ]
          refine takeH 15 rfl rfl (some 6) rfl (.bool true) (by kernel_rfl) (by kernel_rfl) (by kernel_rfl) (fun _ _ _ h => h) (fun _ _ => rfl) hSz ?_
          simp only [Act.put, List.setIfInBounds_toArray, List.set_cons_zero, List.set_cons_succ]
          refine wpAnyH_done (by kernel_rfl) ?_ _
          go_wp2
          go_ret
          exact ⟨rfl, hSz⟩
        · have hn : Below W11.heap.size W11 (W11.alloc (.cells #[.string (B t)] 9)) := (Below.refl _ _).alloc (Nat.le_refl _) _
          have hc12_20 : (W11.alloc (.cells #[.string (B t)] 9)).cell? ⟨W11.heap.size, 0, none⟩ = some (.string (B t)) := by rw [World.cell?_alloc_new]; rfl
          refine wpH_run (w' := W11.alloc (.cells #[.string (B t)] 9)) (some 66) rfl (.slice (some ⟨W11.heap.size, 0, none⟩) 1 1) (by kernel_rfl) ?_
          simp only [Act.put, List.setIfInBounds_toArray, List.set_cons_zero, List.set_cons_succ]
          have hS20 := hS11.trans (hn.mono hS11.size)
          refine hK _ _ hS20 fun _ => ?_
          clear hK K
          have hc3_20 := cell_below hc3_11 hn
          clear hn
          generalize W11.alloc (.cells #[.string (B t)] 9) = W20 at *
          generalize W11.heap.size = b20 at *
          refine oneH 4 rfl rfl (by kernel_rfl) fun K hK => ?_
          refine wpH_call (some 58) rfl 13 #[.int .i64 (size : Int), .string (B key), .slice (some ⟨b1, 0, none⟩) 1 1] (by kernel_rfl) _ _ (HS1.out _ W20 (HG.out.below hS20) hc3_20) fun W21 hn => ?_
          simp only [Act.put, List.setIfInBounds_toArray, List.set_cons_zero, List.set_cons_succ]
          have hS21 := hS20.trans (hn.mono hS20.size)
          refine hK _ _ hS21 fun _ => ?_
          clear hK K
          have hc12_21 := cell_below hc12_20 hn
          clear hn
          refine oneH 13 rfl rfl (by kernel_rfl) fun K hK => ?_
          refine wpH_call (some 67) rfl 13 #[.int .i64 (size : Int), .string (B k2), .slice (some ⟨b20, 0, none⟩) 1 1] (by kernel_rfl) _ _ (HS2.out _ W21 (HG.out.below hS21) hc12_21) fun Wz hWz => ?_
          simp only [Act.put, List.setIfInBounds_toArray, List.set_cons_zero, List.set_cons_succ]
          have hSz := hS21.trans (hWz.mono hS21.size)
          refine hK _ _ hSz fun _ => ?_
          clear hK K
          refine takeH 14 rfl rfl (some 68) rfl (.bool true) (by kernel_rfl) (by kernel_rfl) (by kernel_rfl) (fun _ _ _ h => h) (fun w1 _ => runEqT _ _ _ rfl rfl rfl) hSz ?_
          simp only [Act.put, List.setIfInBounds_toArray, List.set_cons_zero, List.set_cons_succ]
          refine takeH 15 rfl rfl (some 6) rfl (.bool true) (by kernel_rfl) (by kernel_rfl) (by kernel_rfl) (fun _ _ _ h => h) (fun _ _ => rfl) hSz ?_
          simp only [Act.put, List.setIfInBounds_toArray, List.set_cons_zero, List.set_cons_succ]
          refine wpAnyH_done (by kernel_rfl) ?_ _
          go_wp2
          go_ret
          exact ⟨rfl, hSz⟩
      · have hn : Below W11.heap.size W11 (W11.alloc (.cells #[.string (B t)] 9)) := (Below.refl _ _).alloc (Nat.le_refl _) _
        have hc12_22 : (W11.alloc (.cells #[.string (B t)] 9)).cell? ⟨W11.heap.size, 0, none⟩ = some (.string (B t)) := by rw [World.cell?_alloc_new]; rfl
        refine wpH_run (w' := W11.alloc (.cells #[.string (B t)] 9)) (some 66) rfl (.slice (some ⟨W11.heap.size, 0, none⟩) 1 1) (by kernel_rfl) ?_
        simp only [Act.put, List.setIfInBounds_toArray, List.set_cons_zero, List.set_cons_succ]
        have hS22 := hS11.trans (hn.mono hS11.size)
        refine hK _ _ hS22 fun _ => ?_
        clear hK K
        have hc3_22 := cell_below hc3_11 hn
        have hc8_22 := NumsAt.below hc8_11 hn
        clear hn
        generalize W11.alloc (.cells #[.string (B t)] 9) = W22 at *
        generalize W11.heap.size = b22 at *
        refine twoH 4 9 rfl rfl rfl rfl (by kernel_rfl) (fun K hK => ?_) (fun K hK => ?_)
        · refine wpH_call (some 58) rfl 13 #[.int .i64 (size : Int), .string (B key), .slice (some ⟨b1, 0, none⟩) 1 1] (by kernel_rfl) _ _ (HS1.out _ W22 (HG.out.below hS22) hc3_22) fun W23 hn => ?_
          simp only [Act.put, List.setIfInBounds_toArray, List.set_cons_zero, List.set_cons_succ]
          have hS23 := hS22.trans (hn.mono hS22.size)
          refine hK _ _ hS23 fun _ => ?_
          clear hK K
          have hc8_23 := NumsAt.below hc8_22 hn
          have hc12_23 := cell_below hc12_22 hn
          clear hn
          refine oneH 9 rfl rfl (by kernel_rfl) fun K hK => ?_
          refine wpH_run (w' := W23) (some 63) rfl (.string (B ((zeros k).map UInt8.ofNat))) (runStr _ rfl rfl (zeros_length k) hc8_23) ?_
          simp only [Act.put, List.setIfInBounds_toArray, List.set_cons_zero, List.set_cons_succ]
          refine hK _ _ hS23 fun _ => ?_
          clear hK K
          refine takeH 10 rfl rfl (some 64) rfl (.string (B k2)) (by kernel_rfl) (by kernel_rfl) (by kernel_rfl) (fun _ _ _ h => h) (fun w1 _ => by rw [← HK2.out]; exact runCat _ _ _ rfl rfl rfl hcl) hS23 ?_
          simp only [Act.put, List.setIfInBounds_toArray, List.set_cons_zero, List.set_cons_succ]
          refine oneH 13 rfl rfl (by kernel_rfl) fun K hK => ?_
          refine wpH_call (some 67) rfl 13 #[.int .i64 (size : Int), .string (B k2), .slice (some ⟨b22, 0, none⟩) 1 1] (by kernel_rfl) _ _ (HS2.out _ W23 (HG.out.below hS23) hc12_23) fun Wz hWz => ?_
          simp only [Act.put, List.setIfInBounds_toArray, List.set_cons_zero, List.set_cons_succ]
          have hSz := hS23.trans (hWz.mono hS23.size)
          refine hK _ _ hSz fun _ => ?_
          clear hK K
          refine takeH 14 rfl rfl (some 68) rfl (.bool true) (by kernel_rfl) (by kernel_rfl) (by kernel_rfl) (fun _ _ _ h => h) (fun w1 _ => runEqT _ _ _ rfl rfl rfl) hSz ?_
          simp only [Act.put, List.setIfInBounds_toArray, List.set_cons_zero, List.set_cons_succ]
          refine takeH 15 rfl rfl (some 6) rfl (.bool true) (by kernel_rfl) (by kernel_rfl) (by kernel_rfl) (fun _ _ _ h => h) (fun _ _ => rfl) hSz ?_
          simp only [Act.put, List.setIfInBounds_toArray, List.set_cons_zero, List.set_cons_succ]
          refine wpAnyH_done (by kernel_rfl) ?_ _
          go_wp2
          go_ret
          exact ⟨rfl, hSz⟩
        · refine wpH_run (w' := W22) (some 63) rfl (.string (B ((zeros k).map UInt8.ofNat))) (runStr _ rfl rfl (zeros_length k) hc8_22) ?_
          simp only [Act.put, List.setIfInBounds_toArray, List.set_cons_zero, List.set_cons_succ]
          refine hK _ _ hS22 fun _ => ?_
          clear hK K
          refine takeH 10 rfl rfl (some 64) rfl (.string (B k2)) (by kernel_rfl) (by kernel_rfl) (by kernel_rfl) (fun _ _ _ h => h) (fun w1 _ => by rw [← HK2.out]; exact runCat _ _ _ rfl rfl rfl hcl) hS22 ?_
          simp only [Act.put, List.setIfInBounds_toArray, List.set_cons_zero, List.set_cons_succ]
          refine oneH 4 rfl rfl (by kernel_rfl) fun K hK => ?_
          refine wpH_call (some 58) rfl 13 #[.int .i64 (size : Int), .string (B key), .slice (some ⟨b1, 0, none⟩) 1 1] (by kernel_rfl) _ _ (HS1.out _ W22 (HG.out.below hS22) hc3_22) fun W26 hn => ?_
          simp only [Act.put, List.setIfInBounds_toArray, List.set_cons_zero, List.set_cons_succ]
          have hS26 := hS22.trans (hn.mono hS22.size)
          refine hK _ _ hS26 fun _ => ?_
          clear hK K
          have hc12_26 := cell_below hc12_22 hn
          clear hn
          refine oneH 13 rfl rfl (by kernel_rfl) fun K hK => ?_
          refine wpH_call (some 67) rfl 13 #[.int .i64 (size : Int), .string (B k2), .slice (some ⟨b22, 0, none⟩) 1 1] (by kernel_rfl) _ _ (HS2.out _ W26 (HG.out.below hS26) hc12_26) fun Wz hWz => ?_
          simp only [Act.put, List.setIfInBounds_toArray, List.set_cons_zero, List.set_cons_succ]
          have hSz := hS26.trans (hWz.mono hS26.size)
          refine hK _ _ hSz fun _ => ?_
          clear hK K
          refine takeH 14 rfl rfl (some 68) rfl (.bool true) (by kernel_rfl) (by kernel_rfl) (by kernel_rfl) (fun _ _ _ h => h) (fun w1 _ => runEqT _ _ _ rfl rfl rfl) hSz ?_
          simp only [Act.put, List.setIfInBounds_toArray, List.set_cons_zero, List.set_cons_succ]
          refine takeH 15 rfl rfl (some 6) rfl (.bool true) (by kernel_rfl) (by kernel_rfl) (by kernel_rfl) (fun _ _ _ h => h) (fun _ _ => rfl) hSz ?_
          simp only [Act.put, List.setIfInBounds_toArray, List.set_cons_zero, List.set_cons_succ]
          refine wpAnyH_done (by kernel_rfl) ?_ _
          go_wp2
          go_ret
          exact ⟨rfl, hSz⟩
    · have hn : Below W1.heap.size W1 (W1.alloc (.cells #[.string (B t)] 9)) := (Below.refl _ _).alloc (Nat.le_refl _) _
      have hc12_27 : (W1.alloc (.cells #[.string (B t)] 9)).cell? ⟨W1.heap.size, 0, none⟩ = some (.string (B t)) := by rw [World.cell?_alloc_new]; rfl
      refine wpH_run (w' := W1.alloc (.cells #[.string (B t)] 9)) (some 66) rfl (.slice (some ⟨W1.heap.size, 0, none⟩) 1 1) (by kernel_rfl) ?_
      simp only [Act.put, List.setIfInBounds_toArray, List.set_cons_zero, List.set_cons_succ]
      have hS27 := hS1.trans (hn.mono hS1.size)
      refine hK _ _ hS27 fun _ => ?_
      clear hK K
      have hc3_27 := cell_below hc3_1 hn
      clear hn
      generalize W1.alloc (.cells #[.string (B t)] 9) = W27 at *
      generalize W1.heap.size = b27 at *
      refine twoH 4 8 rfl rfl rfl rfl (by kernel_rfl) (fun K hK => ?_) (fun K hK => ?_)
      · refine wpH_call (some 58) rfl 13 #[.int .i64 (size : Int), .string (B key), .slice (some ⟨b1, 0, none⟩) 1 1] (by kernel_rfl) _ _ (HS1.out _ W27 (HG.out.below hS27) hc3_27) fun W28 hn => ?_
        simp only [Act.put, List.setIfInBounds_toArray, List.set_cons_zero, List.set_cons_succ]
        have hS28 := hS27.trans (hn.mono hS27.size)
        refine hK _ _ hS28 fun _ => ?_
        clear hK K
        have hc12_28 := cell_below hc12_27 hn
        clear hn
        refine oneH 8 rfl rfl (by kernel_rfl) fun K hK => ?_
        have hn : Below W28.heap.size W28 (W28.alloc (.cells (nums .u8 (zeros k)) 5)) := (Below.refl _ _).alloc (Nat.le_refl _) _
        have hc8_29 : NumsAt (W28.alloc (.cells (nums .u8 (zeros k)) 5)) W28.heap.size 5 .u8 (zeros k) := NumsAt.new W28 _ _ _
        refine wpH_run (w' := W28.alloc (.cells (nums .u8 (zeros k)) 5)) (some 62) rfl (.slice (some ⟨W28.heap.size, 0, none⟩) k k) (runMake _ _ rfl rfl rfl hkl) ?_
        simp only [Act.put, List.setIfInBounds_toArray, List.set_cons_zero, List.set_cons_succ]
        have hS29 := hS28.trans (hn.mono hS28.size)
        refine hK _ _ hS29 fun _ => ?_
        clear hK K
        have hc12_29 := cell_below hc12_28 hn
        clear hn
        generalize W28.alloc (.cells (nums .u8 (zeros k)) 5) = W29 at *
        generalize W28.heap.size = b29 at *
        refine oneH 9 rfl rfl (by kernel_rfl) fun K hK => ?_
        refine wpH_run (w' := W29) (some 63) rfl (.string (B ((zeros k).map UInt8.ofNat))) (runStr _ rfl rfl (zeros_length k) hc8_29) ?_
        simp only [Act.put, List.setIfInBounds_toArray, List.set_cons_zero, List.set_cons_succ]
        refine hK _ _ hS29 fun _ => ?_
        clear hK K
        refine takeH 10 rfl rfl (some 64) rfl (.string (B k2)) (by kernel_rfl) (by kernel_rfl) (by kernel_rfl) (fun _ _ _ h => h) (fun w1 _ => by rw [← HK2.out]; exact runCat _ _ _ rfl rfl rfl hcl) hS29 ?_
        simp only [Act.put, List.setIfInBounds_toArray, List.set_cons_zero, List.set_cons_succ]
        refine oneH 13 rfl rfl (by kernel_rfl) fun K hK => ?_
        refine wpH_call (some 67) rfl 13 #[.int .i64 (size : Int), .string (B k2), .slice (some ⟨b27, 0, none⟩) 1 1] (by kernel_rfl) _ _ (HS2.out _ W29 (HG.out.below hS29) hc12_29) fun Wz hWz => ?_
        simp only [Act.put, List.setIfInBounds_toArray, List.set_cons_zero, List.set_cons_succ]
        have hSz := hS29.trans (hWz.mono hS29.size)
        refine hK _ _ hSz fun _ => ?_
        clear hK K
        refine takeH 14 rfl rfl (some 68) rfl (.bool true) (by kernel_rfl) (by kernel_rfl) (by kernel_rfl) (fun _ _ _ h => h) (fun w1 _ => runEqT _ _ _ rfl rfl rfl) hSz ?_
        simp only [Act.put, List.setIfInBounds_toArray, List.set_cons_zero, List.set_cons_succ]
        refine takeH 15 rfl rfl (some 6) rfl (.bool true) (by kernel_rfl) (by kernel_rfl) (by kernel_rfl) (fun _ _ _ h => h) (fun _ _ => rfl) hSz ?_
        simp only [Act.put, List.setIfInBounds_toArray, List.set_cons_zero, List.set_cons_succ]
        refine wpAnyH_done (by kernel_rfl) ?_ _
        go_wp2
        go_ret
        exact ⟨rfl, hSz⟩
      · have hn : Below W27.heap.size W27 (W27.alloc (.cells (nums .u8 (zeros k)) 5)) := (Below.refl _ _).alloc (Nat.le_refl _) _
        have hc8_31 : NumsAt (W27.alloc (.cells (nums .u8 (zeros k)) 5)) W27.heap.size 5 .u8 (zeros k) := NumsAt.new W27 _ _ _
        refine wpH_run (w' := W27.alloc (.cells (nums .u8 (zeros k)) 5)) (some 62) rfl (.slice (some ⟨W27.heap.size, 0, none⟩) k k) (runMake _ _ rfl rfl rfl hkl) ?_
        simp only [Act.put, List.setIfInBounds_toArray, List.set_cons_zero, List.set_cons_succ]
        have hS31 := hS27.trans (hn.mono hS27.size)
        refine hK _ _ hS31 fun _ => ?_
        clear hK K
        have hc3_31 := cell_below hc3_27 hn
        have hc12_31 := cell_below hc12_27 hn
        clear hn
        generalize W27.alloc (.cells (nums .u8 (zeros k)) 5) = W31 at *
        generalize W27.heap.size = b31 at *
        refine twoH 4 9 rfl rfl rfl rfl (by kernel_rfl) (fun K hK => ?_) (fun K hK => ?_)
        · refine wpH_call (some 58) rfl 13 #[.int .i64 (size : Int), .string (B key), .slice (some ⟨b1, 0, none⟩) 1 1] (by kernel_rfl) _ _ (HS1.out _ W31 (HG.out.below hS31) hc3_31) fun W32 hn => ?_
          simp only [Act.put, List.setIfInBounds_toArray, List.set_cons_zero, List.set_cons_succ]
          have hS32 := hS31.trans (hn.mono hS31.size)
          refine hK _ _ hS32 fun _ => ?_
          clear hK K
          have hc12_32 := cell_below hc12_31 hn
          have hc8_32 := NumsAt.below hc8_31 hn
          clear hn
          refine oneH 9 rfl rfl (by kernel_rfl) fun K hK => ?_
          refine wpH_run (w' := W32) (some 63) rfl (.string (B ((zeros k).map UInt8.ofNat))) (runStr _ rfl rfl (zeros_length k) hc8_32) ?_
          simp only [Act.put, List.setIfInBounds_toArray, List.set_cons_zero, List.set_cons_succ]
          refine hK _ _ hS32 fun _ => ?_
          clear hK K
          refine takeH 10 rfl rfl (some 64) rfl (.string (B k2)) (by kernel_rfl) (by kernel_rfl) (by kernel_rfl) (fun _ _ _ h => h) (fun w1 _ => by rw [← HK2.out]; exact runCat _ _ _ rfl rfl rfl hcl) hS32 ?_
          simp only [Act.put, List.setIfInBounds_toArray, List.set_cons_zero, List.set_cons_succ]
          refine oneH 13 rfl rfl (by kernel_rfl) fun K hK => ?_
          refine wpH_call (some 67) rfl 13 #[.int .i64 (size : Int), .string (B k2), .slice (some ⟨b27, 0, none⟩) 1 1] (by kernel_rfl) _ _ (HS2.out _ W32 (HG.out.below hS32) hc12_32) fun Wz hWz => ?_
          simp only [Act.put, List.setIfInBounds_toArray, List.set_cons_zero, List.set_cons_succ]
          have hSz := hS32.trans (hWz.mono hS32.size)
          refine hK _ _ hSz fun _ => ?_
          clear hK K
          refine takeH 14 rfl rfl (some 68) rfl (.bool true) (by kernel_rfl) (by kernel_rfl) (by kernel_rfl) (fun _ _ _ h => h) (fun w1 _ => runEqT _ _ _ rfl rfl rfl) hSz ?_
          simp only [Act.put, List.setIfInBounds_toArray, List.set_cons_zero, List.set_cons_succ]
          refine takeH 15 rfl rfl (some 6) rfl (.bool true) (by kernel_rfl) (by kernel_rfl) (by kernel_rfl) (fun _ _ _ h => h) (fun _ _ => rfl) hSz ?_
          simp only [Act.put, List.setIfInBounds_toArray, List.set_cons_zero, List.set_cons_succ]
          refine wpAnyH_done (by kernel_rfl) ?_ _
          go_wp2
          go_ret
          exact ⟨rfl, hSz⟩
        · refine wpH_run (w' := W31) (some 63) rfl (.string (B ((zeros k).map UInt8.ofNat))) (runStr _ rfl rfl (zeros_length k) hc8_31) ?_
          simp only [Act.put, List.setIfInBounds_toArray, List.set_cons_zero, List.set_cons_succ]
          refine hK _ _ hS31 fun _ => ?_
          clear hK K
          refine takeH 10 rfl rfl (some 64) rfl (.string (B k2)) (by kernel_rfl) (by kernel_rfl) (by kernel_rfl) (fun _ _ _ h => h) (fun w1 _ => by rw [← HK2.out]; exact runCat _ _ _ rfl rfl rfl hcl) hS31 ?_
          simp only [Act.put, List.setIfInBounds_toArray, List.set_cons_zero, List.set_cons_succ]
          refine oneH 4 rfl rfl (by kernel_rfl) fun K hK => ?_
          refine wpH_call (some 58) rfl 13 #[.int .i64 (size : Int), .string (B key), .slice (some ⟨b1, 0, none⟩) 1 1] (by kernel_rfl) _ _ (HS1.out _ W31 (HG.out.below hS31) hc3_31) fun W35 hn => ?_
          simp only [Act.put, List.setIfInBounds_toArray, List.set_cons_zero, List.set_cons_succ]
          have hS35 := hS31.trans (hn.mono hS31.size)
          refine hK _ _ hS35 fun _ => ?_
          clear hK K
          have hc12_35 := cell_below hc12_31 hn
          clear hn
          refine oneH 13 rfl rfl (by kernel_rfl) fun K hK => ?_
          refine wpH_call (some 67) rfl 13 #[.int .i64 (size : Int), .string (B k2), .slice (some ⟨b27, 0, none⟩) 1 1] (by kernel_rfl) _ _ (HS2.out _ W35 (HG.out.below hS35) hc12_35) fun Wz hWz => ?_
          simp only [Act.put, List.setIfInBounds_toArray, List.set_cons_zero, List.set_cons_succ]
          have hSz := hS35.trans (hWz.mono hS35.size)
          refine hK _ _ hSz fun _ => ?_
          clear hK K
          refine takeH 14 rfl rfl (some 68) rfl (.bool true) (by kernel_rfl) (by kernel_rfl) (by kernel_rfl) (fun _ _ _ h => h) (fun w1 _ => runEqT _ _ _ rfl rfl rfl) hSz ?_
          simp only [Act.put, List.setIfInBounds_toArray, List.set_cons_zero, List.set_cons_succ]
          refine takeH 15 rfl rfl (some 6) rfl (.bool true) (by kernel_rfl) (by kernel_rfl) (by kernel_rfl) (fun _ _ _ h => h) (fun _ _ => rfl) hSz ?_
          simp only [Act.put, List.setIfInBounds_toArray, List.set_cons_zero, List.set_cons_succ]
          refine wpAnyH_done (by kernel_rfl) ?_ _
          go_wp2
          go_ret
          exact ⟨rfl, hSz⟩
  · have hn : Below W0.heap.size W0 (W0.alloc (.cells (nums .u8 (zeros k)) 5)) := (Below.refl _ _).alloc (Nat.le_refl _) _
    have hc8_36 : NumsAt (W0.alloc (.cells (nums .u8 (zeros k)) 5)) W0.heap.size 5 .u8 (zeros k) := NumsAt.new W0 _ _ _
    refine wpH_run (w' := W0.alloc (.cells (nums .u8 (zeros k)) 5)) (some 62) rfl (.slice (some ⟨W0.heap.size, 0, none⟩) k k) (runMake _ _ rfl rfl rfl hkl) ?_
    simp only [Act.put, List.setIfInBounds_toArray, List.set_cons_zero, List.set_cons_succ]
    have hS36 := hS.trans (hn.mono hS.size)
    refine hK _ _ hS36 fun _ => ?_
    clear hK K
    clear hn
    generalize W0.alloc (.cells (nums .u8 (zeros k)) 5) = W36 at *
    generalize W0.heap.size = b36 at *
    refine threeH 3 9 12 rfl rfl rfl rfl rfl rfl (by kernel_rfl) (fun K hK => ?_) (fun K hK => ?_) (fun K hK => ?_)
    · have hn : Below W36.heap.size W36 (W36.alloc (.cells #[.string (B t)] 9)) := (Below.refl _ _).alloc (Nat.le_refl _) _
      have hc3_37 : (W36.alloc (.cells #[.string (B t)] 9)).cell? ⟨W36.heap.size, 0, none⟩ = some (.string (B t)) := by rw [World.cell?_alloc_new]; rfl
      refine wpH_run (w' := W36.alloc (.cells #[.string (B t)] 9)) (some 57) rfl (.slice (some ⟨W36.heap.size, 0, none⟩) 1 1) (by kernel_rfl) ?_
      simp only [Act.put, List.setIfInBounds_toArray, List.set_cons_zero, List.set_cons_succ]
      have hS37 := hS36.trans (hn.mono hS36.size)
      refine hK _ _ hS37 fun _ => ?_
      clear hK K
      have hc8_37 := NumsAt.below hc8_36 hn
      clear hn
      generalize W36.alloc (.cells #[.string (B t)] 9) = W37 at *
      generalize W36.heap.size = b37 at *
      refine threeH 4 9 12 rfl rfl rfl rfl rfl rfl (by kernel_rfl) (fun K hK => ?_) (fun K hK => ?_) (fun K hK => ?_)
      · refine wpH_call (some 58) rfl 13 #[.int .i64 (size : Int), .string (B key), .slice (some ⟨b37, 0, none⟩) 1 1] (by kernel_rfl) _ _ (HS1.out _ W37 (HG.out.below hS37) hc3_37) fun W38 hn => ?_
        simp only [Act.put, List.setIfInBounds_toArray, List.set_cons_zero, List.set_cons_succ]
        have hS38 := hS37.trans (hn.mono hS37.size)
        refine hK _ _ hS38 fun _ => ?_
        clear hK K
        have hc8_38 := NumsAt.below hc8_37 hn
        clear hn
        refine twoH 9 12 rfl rfl rfl rfl (by kernel_rfl) (fun K hK => ?_) (fun K hK => ?_)
        · refine wpH_run (w' := W38) (some 63) rfl (.string (B ((zeros k).map UInt8.ofNat))) (runStr _ rfl rfl (zeros_length k) hc8_38) ?_
          simp only [Act.put, List.setIfInBounds_toArray, List.set_cons_zero, List.set_cons_succ]
          refine hK _ _ hS38 fun _ => ?_
          clear hK K
          refine takeH 10 rfl rfl (some 64) rfl (.string (B k2)) (by kernel_rfl) (by kernel_rfl) (by kernel_rfl) (fun _ _ _ h => h) (fun w1 _ => by rw [← HK2.out]; exact runCat _ _ _ rfl rfl rfl hcl) hS38 ?_
          simp only [Act.put, List.setIfInBounds_toArray, List.set_cons_zero, List.set_cons_succ]
          refine oneH 12 rfl rfl (by kernel_rfl) fun K hK => ?_
          have hn : Below W38.heap.size W38 (W38.alloc (.cells #[.string (B t)] 9)) := (Below.refl _ _).alloc (Nat.le_refl _) _
          have hc12_40 : (W38.alloc (.cells #[.string (B t)] 9)).cell? ⟨W38.heap.size, 0, none⟩ = some (.string (B t)) := by rw [World.cell?_alloc_new]; rfl
          refine wpH_run (w' := W38.alloc (.cells #[.string (B t)] 9)) (some 66) rfl (.slice (some ⟨W38.heap.size, 0, none⟩) 1 1) (by kernel_rfl) ?_
          simp only [Act.put, List.setIfInBounds_toArray, List.set_cons_zero, List.set_cons_succ]
          have hS40 := hS38.trans (hn.mono hS38.size)
          refine hK _ _ hS40 fun _ => ?_
          clear hK K
          clear hn
          generalize W38.alloc (.cells #[.string (B t)] 9) = W40 at *
          generalize W38.heap.size = b40 at *
          refine oneH 13 rfl rfl (by kernel_rfl) fun K hK => ?_
          refine wpH_call (some 67) rfl 13 #[.int .i64 (size : Int), .string (B k2), .slice (some ⟨b40, 0, none⟩) 1 1] (by kernel_rfl) _ _ (HS2.out _ W40 (HG.out.below hS40) hc12_40) fun Wz hWz => ?_
          simp only [Act.put, List.setIfInBounds_toArray, List.set_cons_zero, List.set_cons_succ]
          have hSz := hS40.trans (hWz.mono hS40.size)
          refine hK _ _ hSz fun _ => ?_
          clear hK K
          refine takeH 14 rfl rfl (some 68) rfl (.bool true) (by kernel_rfl) (by kernel_rfl) (by kernel_rfl) (fun _ _ _ h => h) (fun w1 _ => runEqT _ _ _ rfl rfl rfl) hSz ?_
          simp only [Act.put, List.setIfInBounds_toArray, List.set_cons_zero, List.set_cons_succ]
          refine takeH 15 rfl rfl (some 6) rfl (.bool true) (by kernel_rfl) (by kernel_rfl) (by kernel_rfl) (fun _ _ _ h => h) (fun _ _ => rfl) hSz ?_
          simp only [Act.put, List.setIfInBounds_toArray, List.set_cons_zero, List.set_cons_succ]
          refine wpAnyH_done (by kernel_rfl) ?_ _
          go_wp2
          go_ret
          exact ⟨rfl, hSz⟩
        · have hn : Below W38.heap.size W38 (W38.alloc (.cells #[.string (B t)] 9)) := (Below.refl _ _).alloc (Nat.le_refl _) _
          have hc12_41 : (W38.alloc (.cells #[.string (B t)] 9)).cell? ⟨W38.heap.size, 0, none⟩ = some (.string (B t)) := by rw [World.cell?_alloc_new]; rfl
          refine wpH_run (w' := W38.alloc (.cells #[.string (B t)] 9)) (some 66) rfl (.slice (some ⟨W38.heap.size, 0, none⟩) 1 1) (by kernel_rfl) ?_
          simp only [Act.put, List.setIfInBounds_toArray, List.set_cons_zero, List.set_cons_succ]
          have hS41 := hS38.trans (hn.mono hS38.size)
          refine hK _ _ hS41 fun _ => ?_
          clear hK K
          have hc8_41 := NumsAt.below hc8_38 hn
          clear hn
          generalize W38.alloc (.cells #[.string (B t)] 9) = W41 at *
          generalize W38.heap.size = b41 at *
          refine oneH 9 rfl rfl (by kernel_rfl) fun K hK => ?_
          refine wpH_run (w' := W41) (some 63) rfl (.string (B ((zeros k).map UInt8.ofNat))) (runStr _ rfl rfl (zeros_length k) hc8_41) ?_
          simp only [Act.put, List.setIfInBounds_toArray, List.set_cons_zero, List.set_cons_succ]
          refine hK _ _ hS41 fun _ => ?_
          clear hK K
          refine takeH 10 rfl rfl (some 64) rfl (.string (B k2)) (by kernel_rfl) (by kernel_rfl) (by kernel_rfl) (fun _ _ _ h => h) (fun w1 _ => by rw [← HK2.out]; exact runCat _ _ _ rfl rfl rfl hcl) hS41 ?_
          simp only [Act.put, List.setIfInBounds_toArray, List.set_cons_zero, List.set_cons_succ]
          refine oneH 13 rfl rfl (by kernel_rfl) fun K hK => ?_
          refine wpH_call (some 67) rfl 13 #[.int .i64 (size : Int), .string (B k2), .slice (some ⟨b41, 0, none⟩) 1 1] (by kernel_rfl) _ _ (HS2.out _ W41 (HG.out.below hS41) hc12_41) fun Wz hWz => ?_
          simp only [Act.put, List.setIfInBounds_toArray, List.set_cons_zero, List.set_cons_succ]
          have hSz := hS41.trans (hWz.mono hS41.size)
          refine hK _ _ hSz fun _ => ?_
          clear hK K
          refine takeH 14 rfl rfl (some 68) rfl (.bool true) (by kernel_rfl) (by kernel_rfl) (by kernel_rfl) (fun _ _ _ h => h) (fun w1 _ => runEqT _ _ _ rfl rfl rfl) hSz ?_
          simp only [Act.put, List.setIfInBounds_toArray, List.set_cons_zero, List.set_cons_succ]
          refine takeH 15 rfl rfl (some 6) rfl (.bool true) (by kernel_rfl) (by kernel_rfl) (by kernel_rfl) (fun _ _ _ h => h) (fun _ _ => rfl) hSz ?_
          simp only [Act.put, List.setIfInBounds_toArray, List.set_cons_zero, List.set_cons_succ]
          refine wpAnyH_done (by kernel_rfl) ?_ _
          go_wp2
          go_ret
          exact ⟨rfl, hSz⟩
      · refine wpH_run (w' := W37) (some 63) rfl (.string (B ((zeros k).map UInt8.ofNat))) (runStr _ rfl rfl (zeros_length k) hc8_37) ?_
        simp only [Act.put, List.setIfInBounds_toArray, List.set_cons_zero, List.set_cons_succ]
        refine hK _ _ hS37 fun _ => ?_
        clear hK K
        refine takeH 10 rfl rfl (some 64) rfl (.string (B k2)) (by kernel_rfl) (by kernel_rfl) (by kernel_rfl) (fun _ _ _ h => h) (fun w1 _ => by rw [← HK2.out]; exact runCat _ _ _ rfl rfl rfl hcl) hS37 ?_
        simp only [Act.put, List.setIfInBounds_toArray, List.set_cons_zero, List.set_cons_succ]
        refine twoH 4 12 rfl rfl rfl rfl (by kernel_rfl) (fun K hK => ?_) (fun K hK => ?_)
        · refine wpH_call (some 58) rfl 13 #[.int .i64 (size : Int), .string (B key), .slice (some ⟨b37, 0, none⟩) 1 1] (by kernel_rfl) _ _ (HS1.out _ W37 (HG.out.below hS37) hc3_37) fun W44 hn => ?_
          simp only [Act.put, List.setIfInBounds_toArray, List.set_cons_zero, List.set_cons_succ]
          have hS44 := hS37.trans (hn.mono hS37.size)
          refine hK _ _ hS44 fun _ => ?_
          clear hK K
          clear hn
          refine oneH 12 rfl rfl (by kernel_rfl) fun K hK => ?_
          have hn : Below W44.heap.size W44 (W44.alloc (.cells #[.string (B t)] 9)) := (Below.refl _ _).alloc (Nat.le_refl _) _
          have hc12_45 : (W44.alloc (.cells #[.string (B t)] 9)).cell? ⟨W44.heap.size, 0, none⟩ = some (.string (B t)) := by rw [World.cell?_alloc_new]; rfl
          refine wpH_run (w' := W44.alloc (.cells #[.string (B t)] 9)) (some 66) rfl (.slice (some ⟨W44.heap.size, 0, none⟩) 1 1) (by kernel_rfl) ?_
          simp only [Act.put, List.setIfInBounds_toArray, List.set_cons_zero, List.set_cons_succ]
          have hS45 := hS44.trans (hn.mono hS44.size)
          refine hK _ _ hS45 fun _ => ?_
          clear hK K
          clear hn
          generalize W44.alloc (.cells #[.string (B t)] 9) = W45 at *
          generalize W44.heap.size = b45 at *
          refine oneH 13 rfl rfl (by kernel_rfl) fun K hK => ?_
          refine wpH_call (some 67) rfl 13 #[.int .i64 (size : Int), .string (B k2), .slice (some ⟨b45, 0, none⟩) 1 1] (by kernel_rfl) _ _ (HS2.out _ W45 (HG.out.below hS45) hc12_45) fun Wz hWz => ?_
          simp only [Act.put, List.setIfInBounds_toArray, List.set_cons_zero, List.set_cons_succ]
          have hSz := hS45.trans (hWz.mono hS45.size)
          refine hK _ _ hSz fun _ => ?_
          clear hK K
          refine takeH 14 rfl rfl (some 68) rfl (.bool true) (by kernel_rfl) (by kernel_rfl) (by kernel_rfl) (fun _ _ _ h => h) (fun w1 _ => runEqT _ _ _ rfl rfl rfl) hSz ?_
          simp only [Act.put, List.setIfInBounds_toArray, List.set_cons_zero, List.set_cons_succ]
          refine takeH 15 rfl rfl (some 6) rfl (.bool true) (by kernel_rfl) (by kernel_rfl) (by kernel_rfl) (fun _ _ _ h => h) (fun _ _ => rfl) hSz ?_
          simp only [Act.put, List.setIfInBounds_toArray, List.set_cons_zero, List.set_cons_succ]
          refine wpAnyH_done (by kernel_rfl) ?_ _
          go_wp2
          go_ret
          exact ⟨rfl, hSz⟩
        · have hn : Below W37.heap.size W37 (W37.alloc (.cells #[.string (B t)] 9)) := (Below.refl _ _).alloc (Nat.le_refl _) _
          have hc12_46 : (W37.alloc (.cells #[.string (B t)] 9)).cell? ⟨W37.heap.size, 0, none⟩ = some (.string (B t)) := by rw [World.cell?_alloc_new]; rfl
          refine wpH_run (w' := W37.alloc (.cells #[.string (B t)] 9)) (some 66) rfl (.slice (some ⟨W37.heap.size, 0, none⟩) 1 1) (by kernel_rfl) ?_
          simp only [Act.put, List.setIfInBounds_toArray, List.set_cons_zero, List.set_cons_succ]
          have hS46 := hS37.trans (hn.mono hS37.size)
          refine hK _ _ hS46 fun _ => ?_
          clear hK K
          have hc3_46 := cell_below hc3_37 hn
          clear hn
          generalize W37.alloc (.cells #[.string (B t)] 9) = W46 at *
          generalize W37.heap.size = b46 at *
          refine oneH 4 rfl rfl (by kernel_rfl) fun K hK => ?_
          refine wpH_call (some 58) rfl 13 #[.int .i64 (size : Int), .string (B key), .slice (some ⟨b37, 0, none⟩) 1 1] (by kernel_rfl) _ _ (HS1.out _ W46 (HG.out.below hS46) hc3_46) fun W47 hn => ?_
          simp only [Act.put, List.setIfInBounds_toArray, List.set_cons_zero, List.set_cons_succ]
          have hS47 := hS46.trans (hn.mono hS46.size)
          refine hK _ _ hS47 fun _ => ?_
          clear hK K
          have hc12_47 := cell_below hc12_46 hn
          clear hn
          refine oneH 13 rfl rfl (by kernel_rfl) fun K hK => ?_
          refine wpH_call (some 67) rfl 13 #[.int .i64 (size : Int), .string (B k2), .slice (some ⟨b46, 0, none⟩) 1 1] (by kernel_rfl) _ _ (HS2.out _ W47 (HG.out.below hS47) hc12_47) fun Wz hWz => ?_
          simp only [Act.put, List.setIfInBounds_toArray, List.set_cons_zero, List.set_cons_succ]
          have hSz := hS47.trans (hWz.mono hS47.size)
          refine hK _ _ hSz fun _ => ?_
          clear hK K
          refine takeH 14 rfl rfl (some 68) rfl (.bool true) (by kernel_rfl) (by kernel_rfl) (by kernel_rfl) (fun _ _ _ h => h) (fun w1 _ => runEqT _ _ _ rfl rfl rfl) hSz ?_
          simp only [Act.put, List.setIfInBounds_toArray, List.set_cons_zero, List.set_cons_succ]
          refine takeH 15 rfl rfl (some 6) rfl (.bool true) (by kernel_rfl) (by kernel_rfl) (by kernel_rfl) (fun _ _ _ h => h) (fun _ _ => rfl) hSz ?_
          simp only [Act.put, List.setIfInBounds_toArray, List.set_cons_zero, List.set_cons_succ]
          refine wpAnyH_done (by kernel_rfl) ?_ _
          go_wp2
          go_ret
          exact ⟨rfl, hSz⟩
      · have hn : Below W37.heap.size W37 (W37.alloc (.cells #[.string (B t)] 9)) := (Below.refl _ _).alloc (Nat.le_refl _) _
        have hc12_48 : (W37.alloc (.cells #[.string (B t)] 9)).cell? ⟨W37.heap.size, 0, none⟩ = some (.string (B t)) := by rw [World.cell?_alloc_new]; rfl
        refine wpH_run (w' := W37.alloc (.cells #[.string (B t)] 9)) (some 66) rfl (.slice (some ⟨W37.heap.size, 0, none⟩) 1 1) (by kernel_rfl) ?_
        simp only [Act.put, List.setIfInBounds_toArray, List.set_cons_zero, List.set_cons_succ]
        have hS48 := hS37.trans (hn.mono hS37.size)
        refine hK _ _ hS48 fun _ => ?_
        clear hK K
        have hc8_48 := NumsAt.below hc8_37 hn
        have hc3_48 := cell_below hc3_37 hn
        clear hn
        generalize W37.alloc (.cells #[.string (B t)] 9) = W48 at *
        generalize W37.heap.size = b48 at *
        refine twoH 4 9 rfl rfl rfl rfl (by kernel_rfl) (fun K hK => ?_) (fun K hK => ?_)
        · refine wpH_call (some 58) rfl 13 #[.int .i64 (size : Int), .string (B key), .slice (some ⟨b37, 0, none⟩) 1 1] (by kernel_rfl) _ _ (HS1.out _ W48 (HG.out.below hS48) hc3_48) fun W49 hn => ?_
          simp only [Act.put, List.setIfInBounds_toArray, List.set_cons_zero, List.set_cons_succ]
          have hS49 := hS48.trans (hn.mono hS48.size)
          refine hK _ _ hS49 fun _ => ?_
          clear hK K
          have hc8_49 := NumsAt.below hc8_48 hn
          have hc12_49 := cell_below hc12_48 hn
          clear hn
          refine oneH 9 rfl rfl (by kernel_rfl) fun K hK => ?_
          refine wpH_run (w' := W49) (some 63) rfl (.string (B ((zeros k).map UInt8.ofNat))) (runStr _ rfl rfl (zeros_length k) hc8_49) ?_
          simp only [Act.put, List.setIfInBounds_toArray, List.set_cons_zero, List.set_cons_succ]
          refine hK _ _ hS49 fun _ => ?_
          clear hK K
          refine takeH 10 rfl rfl (some 64) rfl (.string (B k2)) (by kernel_rfl) (by kernel_rfl) (by kernel_rfl) (fun _ _ _ h => h) (fun w1 _ => by rw [← HK2.out]; exact runCat _ _ _ rfl rfl rfl hcl) hS49 ?_
          simp only [Act.put, List.setIfInBounds_toArray, List.set_cons_zero, List.set_cons_succ]
          refine oneH 13 rfl rfl (by kernel_rfl) fun K hK => ?_
          refine wpH_call (some 67) rfl 13 #[.int .i64 (size : Int), .string (B k2), .slice (some ⟨b48, 0, none⟩) 1 1] (by kernel_rfl) _ _ (HS2.out _ W49 (HG.out.below hS49) hc12_49) fun Wz hWz => ?_
          simp only [Act.put, List.setIfInBounds_toArray, List.set_cons_zero, List.set_cons_succ]
          have hSz := hS49.trans (hWz.mono hS49.size)
          refine hK _ _ hSz fun _ => ?_
          clear hK K
          refine takeH 14 rfl rfl (some 68) rfl (.bool true) (by kernel_rfl) (by kernel_rfl) (by kernel_rfl) (fun _ _ _ h => h) (fun w1 _ => runEqT _ _ _ rfl rfl rfl) hSz ?_
          simp only [Act.put, List.setIfInBounds_toArray, List.set_cons_zero, List.set_cons_succ]
          refine takeH 15 rfl rfl (some 6) rfl (.bool true) (by kernel_rfl) (by kernel_rfl) (by kernel_rfl) (fun _ _ _ h => h) (fun _ _ => rfl) hSz ?_
          simp only [Act.put, List.setIfInBounds_toArray, List.set_cons_zero, List.set_cons_succ]
          refine wpAnyH_done (by kernel_rfl) ?_ _
          go_wp2
          go_ret
          exact ⟨rfl, hSz⟩
        · refine wpH_run (w' := W48) (some 63) rfl (.string (B ((zeros k).map UInt8.ofNat))) (runStr _ rfl rfl (zeros_length k) hc8_48) ?_
          simp only [Act.put, List.setIfInBounds_toArray, List.set_cons_zero, List.set_cons_succ]
          refine hK _ _ hS48 fun _ => ?_
          clear hK K
          refine takeH 10 rfl rfl (some 64) rfl (.string (B k2)) (by kernel_rfl) (by kernel_rfl) (by kernel_rfl) (fun _ _ _ h => h) (fun w1 _ => by rw [← HK2.out]; exact runCat _ _ _ rfl rfl rfl hcl) hS48 ?_
          simp only [Act.put, List.setIfInBounds_toArray, List.set_cons_zero, List.set_cons_succ]
          refine oneH 4 rfl rfl (by kernel_rfl) fun K hK => ?_
          refine wpH_call (some 58) rfl 13 #[.int .i64 (size : Int), .string (B key), .slice (some ⟨b37, 0, none⟩) 1 1] (by kernel_rfl) _ _ (HS1.out _ W48 (HG.out.below hS48) hc3_48) fun W52 hn => ?_
          simp only [Act.put, List.setIfInBounds_toArray, List.set_cons_zero, List.set_cons_succ]
          have hS52 := hS48.trans (hn.mono hS48.size)
          refine hK _ _ hS52 fun _ => ?_
          clear hK K
          have hc12_52 := cell_below hc12_48 hn
          clear hn
          refine oneH 13 rfl rfl (by kernel_rfl) fun K hK => ?_
          refine wpH_call (some 67) rfl 13 #[.int .i64 (size : Int), .string (B k2), .slice (some ⟨b48, 0, none⟩) 1 1] (by kernel_rfl) _ _ (HS2.out _ W52 (HG.out.below hS52) hc12_52) fun Wz hWz => ?_
          simp only [Act.put, List.setIfInBounds_toArray, List.set_cons_zero, List.set_cons_succ]
          have hSz := hS52.trans (hWz.mono hS52.size)
          refine hK _ _ hSz fun _ => ?_
          clear hK K
          refine takeH 14 rfl rfl (some 68) rfl (.bool true) (by kernel_rfl) (by kernel_rfl) (by kernel_rfl) (fun _ _ _ h => h) (fun w1 _ => runEqT _ _ _ rfl rfl rfl) hSz ?_
          simp only [Act.put, List.setIfInBounds_toArray, List.set_cons_zero, List.set_cons_succ]
          refine takeH 15 rfl rfl (some 6) rfl (.bool true) (by kernel_rfl) (by kernel_rfl) (by kernel_rfl) (fun _ _ _ h => h) (fun _ _ => rfl) hSz ?_
          simp only [Act.put, List.setIfInBounds_toArray, List.set_cons_zero, List.set_cons_succ]
          refine wpAnyH_done (by kernel_rfl) ?_ _
          go_wp2
          go_ret
          exact ⟨rfl, hSz⟩
    · refine wpH_run (w' := W36) (some 63) rfl (.string (B ((zeros k).map UInt8.ofNat))) (runStr _ rfl rfl (zeros_length k) hc8_36) ?_
      simp only [Act.put, List.setIfInBounds_toArray, List.set_cons_zero, List.set_cons_succ]
      refine hK _ _ hS36 fun _ => ?_
      clear hK K
      refine takeH 10 rfl rfl (some 64) rfl (.string (B k2)) (by kernel_rfl) (by kernel_rfl) (by kernel_rfl) (fun _ _ _ h => h) (fun w1 _ => by rw [← HK2.out]; exact runCat _ _ _ rfl rfl rfl hcl) hS36 ?_
      simp only [Act.put, List.setIfInBounds_toArray, List.set_cons_zero, List.set_cons_succ]
      refine twoH 3 12 rfl rfl rfl rfl (by kernel_rfl) (fun K hK => ?_) (fun K hK => ?_)
      · have hn : Below W36.heap.size W36 (W36.alloc (.cells #[.string (B t)] 9)) := (Below.refl _ _).alloc (Nat.le_refl _) _
        have hc3_54 : (W36.alloc (.cells #[.string (B t)] 9)).cell? ⟨W36.heap.size, 0, none⟩ = some (.string (B t)) := by rw [World.cell?_alloc_new]; rfl
        refine wpH_run (w' := W36.alloc (.cells #[.string (B t)] 9)) (some 57) rfl (.slice (some ⟨W36.heap.size, 0, none⟩) 1 1) (by kernel_rfl) ?_
        simp only [Act.put, List.setIfInBounds_toArray, List.set_cons_zero, List.set_cons_succ]
        have hS54 := hS36.trans (hn.mono hS36.size)
        refine hK _ _ hS54 fun _ => ?_
        clear hK K
        clear hn
        generalize W36.alloc (.cells #[.string (B t)] 9) = W54 at *
        generalize W36.heap.size = b54 at *
        refine twoH 4 12 rfl rfl rfl rfl (by kernel_rfl) (fun K hK => ?_) (fun K hK => ?_)
        · refine wpH_call (some 58) rfl 13 #[.int .i64 (size : Int), .string (B key), .slice (some ⟨b54, 0, none⟩) 1 1] (by kernel_rfl) _ _ (HS1.out _ W54 (HG.out.below hS54) hc3_54) fun W55 hn => ?_
          simp only [Act.put, List.setIfInBounds_toArray, List.set_cons_zero, List.set_cons_succ]
          have hS55 := hS54.trans (hn.mono hS54.size)
          refine hK _ _ hS55 fun _ => ?_
          clear hK K
          clear hn
          refine oneH 12 rfl rfl (by kernel_rfl) fun K hK => ?_
          have hn : Below W55.heap.size W55 (W55.alloc (.cells #[.string (B t)] 9)) := (Below.refl _ _).alloc (Nat.le_refl _) _
          have hc12_56 : (W55.alloc (.cells #[.string (B t)] 9)).cell? ⟨W55.heap.size, 0, none⟩ = some (.string (B t)) := by rw [World.cell?_alloc_new]; rfl
          refine wpH_run (w' := W55.alloc (.cells #[.string (B t)] 9)) (some 66) rfl (.slice (some ⟨W55.heap.size, 0, none⟩) 1 1) (by kernel_rfl) ?_
          simp only [Act.put, List.setIfInBounds_toArray, List.set_cons_zero, List.set_cons_succ]
          have hS56 := hS55.trans (hn.mono hS55.size)
          refine hK _ _ hS56 fun _ => ?_
          clear hK K
          clear hn
          generalize W55.alloc (.cells #[.string (B t)] 9) = W56 at *
          generalize W55.heap.size = b56 at *
          refine oneH 13 rfl rfl (by kernel_rfl) fun K hK => ?_
          refine wpH_call (some 67) rfl 13 #[.int .i64 (size : Int), .string (B k2), .slice (some ⟨b56, 0, none⟩) 1 1] (by kernel_rfl) _ _ (HS2.out _ W56 (HG.out.below hS56) hc12_56) fun Wz hWz => ?_
          simp only [Act.put, List.setIfInBounds_toArray, List.set_cons_zero, List.set_cons_succ]
          have hSz := hS56.trans (hWz.mono hS56.size)
          refine hK _ _ hSz fun _ => ?_
          clear hK K
          refine takeH 14 rfl rfl (some 68) rfl (.bool true) (by kernel_rfl) (by kernel_rfl) (by kernel_rfl) (fun _ _ _ h => h) (fun w1 _ => runEqT _ _ _ rfl rfl rfl) hSz ?_
          simp only [Act.put, List.setIfInBounds_toArray, List.set_cons_zero, List.set_cons_succ]
          refine takeH 15 rfl rfl (some 6) rfl (.bool true) (by kernel_rfl) (by kernel_rfl) (by kernel_rfl) (fun _ _ _ h => h) (fun _ _ => rfl) hSz ?_
          simp only [Act.put, List.setIfInBounds_toArray, List.set_cons_zero, List.set_cons_succ]
          refine wpAnyH_done (by kernel_rfl) ?_ _
          go_wp2
          go_ret
          exact ⟨rfl, hSz⟩
        · have hn : Below W54.heap.size W54 (W54.alloc (.cells #[.string (B t)] 9)) := (Below.refl _ _).alloc (Nat.le_refl _) _
          have hc12_57 : (W54.alloc (.cells #[.string (B t)] 9)).cell? ⟨W54.heap.size, 0, none⟩ = some (.string (B t)) := by rw [World.cell?_alloc_new]; rfl
          refine wpH_run (w' := W54.alloc (.cells #[.string (B t)] 9)) (some 66) rfl (.slice (some ⟨W54.heap.size, 0, none⟩) 1 1) (by kernel_rfl) ?_
          simp only [Act.put, List.setIfInBounds_toArray, List.set_cons_zero, List.set_cons_succ]
          have hS57 := hS54.trans (hn.mono hS54.size)
          refine hK _ _ hS57 fun _ => ?_
          clear hK K
          have hc3_57 := cell_below hc3_54 hn
          clear hn
          generalize W54.alloc (.cells #[.string (B t)] 9) = W57 at *
          generalize W54.heap.size = b57 at *
          refine oneH 4 rfl rfl (by kernel_rfl) fun K hK => ?_
          refine wpH_call (some 58) rfl 13 #[.int .i64 (size : Int), .string (B key), .slice (some ⟨b54, 0, none⟩) 1 1] (by kernel_rfl) _ _ (HS1.out _ W57 (HG.out.below hS57) hc3_57) fun W58 hn => ?_
          simp only [Act.put, List.setIfInBounds_toArray, List.set_cons_zero, List.set_cons_succ]
          have hS58 := hS57.trans (hn.mono hS57.size)
          refine hK _ _ hS58 fun _ => ?_
          clear hK K
          have hc12_58 := cell_below hc12_57 hn
          clear hn
          refine oneH 13 rfl rfl (by kernel_rfl) fun K hK => ?_
          refine wpH_call (some 67) rfl 13 #[.int .i64 (size : Int), .string (B k2), .slice (some ⟨b57, 0, none⟩) 1 1] (by kernel_rfl) _ _ (HS2.out _ W58 (HG.out.below hS58) hc12_58) fun Wz hWz => ?_
          simp only [Act.put, List.setIfInBounds_toArray, List.set_cons_zero, List.set_cons_succ]
          have hSz := hS58.trans (hWz.mono hS58.size)
          refine hK _ _ hSz fun _ => ?_
          clear hK K
          refine takeH 14 rfl rfl (some 68) rfl (.bool true) (by kernel_rfl) (by kernel_rfl) (by kernel_rfl) (fun _ _ _ h => h) (fun w1 _ => runEqT _ _ _ rfl rfl rfl) hSz ?_
          simp only [Act.put, List.setIfInBounds_toArray, List.set_cons_zero, List.set_cons_succ]
          refine takeH 15 rfl rfl (some 6) rfl (.bool true) (by kernel_rfl) (by kernel_rfl) (by kernel_rfl) (fun _ _ _ h => h) (fun _ _ => rfl) hSz ?_
          simp only [Act.put, List.setIfInBounds_toArray, List.set_cons_zero, List.set_cons_succ]
          refine wpAnyH_done (by kernel_rfl) ?_ _
          go_wp2
          go_ret
          exact ⟨rfl, hSz⟩
      · have hn : Below W36.heap.size W36 (W36.alloc (.cells #[.string (B t)] 9)) := (Below.refl _ _).alloc (Nat.le_refl _) _
        have hc12_59 : (W36.alloc (.cells #[.string (B t)] 9)).cell? ⟨W36.heap.size, 0, none⟩ = some (.string (B t)) := by rw [World.cell?_alloc_new]; rfl
        refine wpH_run (w' := W36.alloc (.cells #[.string (B t)] 9)) (some 66) rfl (.slice (some ⟨W36.heap.size, 0, none⟩) 1 1) (by kernel_rfl) ?_
        simp only [Act.put, List.setIfInBounds_toArray, List.set_cons_zero, List.set_cons_succ]
        have hS59 := hS36.trans (hn.mono hS36.size)
        refine hK _ _ hS59 fun _ => ?_
        clear hK K
        clear hn
        generalize W36.alloc (.cells #[.string (B t)] 9) = W59 at *
        generalize W36.heap.size = b59 at *
        refine oneH 3 rfl rfl (by kernel_rfl) fun K hK => ?_
        have hn : Below W59.heap.size W59 (W59.alloc (.cells #[.string (B t)] 9)) := (Below.refl _ _).alloc (Nat.le_refl _) _
        have hc3_60 : (W59.alloc (.cells #[.string (B t)] 9)).cell? ⟨W59.heap.size, 0, none⟩ = some (.string (B t)) := by rw [World.cell?_alloc_new]; rfl
        refine wpH_run (w' := W59.alloc (.cells #[.string (B t)] 9)) (some 57) rfl (.slice (some ⟨W59.heap.size, 0, none⟩) 1 1) (by kernel_rfl) ?_
        simp only [Act.put, List.setIfInBounds_toArray, List.set_cons_zero, List.set_cons_succ]
        have hS60 := hS59.trans (hn.mono hS59.size)
        refine hK _ _ hS60 fun _ => ?_
        clear hK K
        have hc12_60 := cell_below hc12_59 hn
        clear hn
        generalize W59.alloc (.cells #[.string (B t)] 9) = W60 at *
        generalize W59.heap.size = b60 at *
        refine oneH 4 rfl rfl (by kernel_rfl) fun K hK => ?_
        refine wpH_call (some 58) rfl 13 #[.int .i64 (size : Int), .string (B key), .slice (some ⟨b60, 0, none⟩) 1 1] (by kernel_rfl) _ _ (HS1.out _ W60 (HG.out.below hS60) hc3_60) fun W61 hn => ?_
        simp only [Act.put, List.setIfInBounds_toArray, List.set_cons_zero, List.set_cons_succ]
        have hS61 := hS60.trans (hn.mono hS60.size)
        refine hK _ _ hS61 fun _ => ?_
        clear hK K
        have hc12_61 := cell_below hc12_60 hn
        clear hn
        refine oneH 13 rfl rfl (by kernel_rfl) fun K hK => ?_
        refine wpH_call (some 67) rfl 13 #[.int .i64 (size : Int), .string (B k2), .slice (some ⟨b59, 0, none⟩) 1 1] (by kernel_rfl) _ _ (HS2.out _ W61 (HG.out.below hS61) hc12_61) fun Wz hWz => ?_
        simp only [Act.put, List.setIfInBounds_toArray, List.set_cons_zero, List.set_cons_succ]
        have hSz := hS61.trans (hWz.mono hS61.size)
        refine hK _ _ hSz fun _ => ?_
        clear hK K
        refine takeH 14 rfl rfl (some 68) rfl (.bool true) (by kernel_rfl) (by kernel_rfl) (by kernel_rfl) (fun _ _ _ h => h) (fun w1 _ => runEqT _ _ _ rfl rfl rfl) hSz ?_
        simp only [Act.put, List.setIfInBounds_toArray, List.set_cons_zero, List.set_cons_succ]
        refine takeH 15 rfl rfl (some 6) rfl (.bool true) (by kernel_rfl) (by kernel_rfl) (by kernel_rfl) (fun _ _ _ h => h) (fun _ _ => rfl) hSz ?_
        simp only [Act.put, List.setIfInBounds_toArray, List.set_cons_zero, List.set_cons_succ]
        refine wpAnyH_done (by kernel_rfl) ?_ _
        go_wp2
        go_ret
        exact ⟨rfl, hSz⟩
    · have hn : Below W36.heap.size W36 (W36.alloc (.cells #[.string (B t)] 9)) := (Below.refl _ _).alloc (Nat.le_refl _) _
      have hc12_62 : (W36.alloc (.cells #[.string (B t)] 9)).cell? ⟨W36.heap.size, 0, none⟩ = some (.string (B t)) := by rw [World.cell?_alloc_new]; rfl
      refine wpH_run (w' := W36.alloc (.cells #[.string (B t)] 9)) (some 66) rfl (.slice (some ⟨W36.heap.size, 0, none⟩) 1 1) (by kernel_rfl) ?_
      simp only [Act.put, List.setIfInBounds_toArray, List.set_cons_zero, List.set_cons_succ]
      have hS62 := hS36.trans (hn.mono hS36.size)
      refine hK _ _ hS62 fun _ => ?_
      clear hK K
      have hc8_62 := NumsAt.below hc8_36 hn
      clear hn
      generalize W36.alloc (.cells #[.string (B t)] 9) = W62 at *
      generalize W36.heap.size = b62 at *
      refine twoH 3 9 rfl rfl rfl rfl (by kernel_rfl) (fun K hK => ?_) (fun K hK => ?_)
      · have hn : Below W62.heap.size W62 (W62.alloc (.cells #[.string (B t)] 9)) := (Below.refl _ _).alloc (Nat.le_refl _) _
        have hc3_63 : (W62.alloc (.cells #[.string (B t)] 9)).cell? ⟨W62.heap.size, 0, none⟩ = some (.string (B t)) := by rw [World.cell?_alloc_new]; rfl
        refine wpH_run (w' := W62.alloc (.cells #[.string (B t)] 9)) (some 57) rfl (.slice (some ⟨W62.heap.size, 0, none⟩) 1 1) (by kernel_rfl) ?_
        simp only [Act.put, List.setIfInBounds_toArray, List.set_cons_zero, List.set_cons_succ]
        have hS63 := hS62.trans (hn.mono hS62.size)
        refine hK _ _ hS63 fun _ => ?_
        clear hK K
        have hc8_63 := NumsAt.below hc8_62 hn
        have hc12_63 := cell_below hc12_62 hn
        clear hn
        generalize W62.alloc (.cells #[.string (B t)] 9) = W63 at *
        generalize W62.heap.size = b63 at *
        refine twoH 4 9 rfl rfl rfl rfl (by kernel_rfl) (fun K hK => ?_) (fun K hK => ?_)
        · refine wpH_call (some 58) rfl 13 #[.int .i64 (size : Int), .string (B key), .slice (some ⟨b63, 0, none⟩) 1 1] (by kernel_rfl) _ _ (HS1.out _ W63 (HG.out.below hS63) hc3_63) fun W64 hn => ?_
          simp only [Act.put, List.setIfInBounds_toArray, List.set_cons_zero, List.set_cons_succ]
          have hS64 := hS63.trans (hn.mono hS63.size)
          refine hK _ _ hS64 fun _ => ?_
          clear hK K
          have hc8_64 := NumsAt.below hc8_63 hn
          have hc12_64 := cell_below hc12_63 hn
          clear hn
          refine oneH 9 rfl rfl (by kernel_rfl) fun K hK => ?_
          refine wpH_run (w' := W64) (some 63) rfl (.string (B ((zeros k).map UInt8.ofNat))) (runStr _ rfl rfl (zeros_length k) hc8_64) ?_
          simp only [Act.put, List.setIfInBounds_toArray, List.set_cons_zero, List.set_cons_succ]
          refine hK _ _ hS64 fun _ => ?_
          clear hK K
          refine takeH 10 rfl rfl (some 64) rfl (.string (B k2)) (by kernel_rfl) (by kernel_rfl) (by kernel_rfl) (fun _ _ _ h => h) (fun w1 _ => by rw [← HK2.out]; exact runCat _ _ _ rfl rfl rfl hcl) hS64 ?_
          simp only [Act.put, List.setIfInBounds_toArray, List.set_cons_zero, List.set_cons_succ]
          refine oneH 13 rfl rfl (by kernel_rfl) fun K hK => ?_
          refine wpH_call (some 67) rfl 13 #[.int .i64 (size : Int), .string (B k2), .slice (some ⟨b62, 0, none⟩) 1 1] (by kernel_rfl) _ _ (HS2.out _ W64 (HG.out.below hS64) hc12_64) fun Wz hWz => ?_
          simp only [Act.put, List.setIfInBounds_toArray, List.set_cons_zero, List.set_cons_succ]
          have hSz := hS64.trans (hWz.mono hS64.size)
          refine hK _ _ hSz fun _ => ?_
          clear hK K
          refine takeH 14 rfl rfl (some 68) rfl (.bool true) (by kernel_rfl) (by kernel_rfl) (by kernel_rfl) (fun _ _ _ h => h) (fun w1 _ => runEqT _ _ _ rfl rfl rfl) hSz ?_
          simp only [Act.put, List.setIfInBounds_toArray, List.set_cons_zero, List.set_cons_succ]
          refine takeH 15 rfl rfl (some 6) rfl (.bool true) (by kernel_rfl) (by kernel_rfl) (by kernel_rfl) (fun _ _ _ h => h) (fun _ _ => rfl) hSz ?_
          simp only [Act.put, List.setIfInBounds_toArray, List.set_cons_zero, List.set_cons_succ]
          refine wpAnyH_done (by kernel_rfl) ?_ _
          go_wp2
          go_ret
          exact ⟨rfl, hSz⟩
        · refine wpH_run (w' := W63) (some 63) rfl (.string (B ((zeros k).map UInt8.ofNat))) (runStr _ rfl rfl (zeros_length k) hc8_63) ?_
          simp only [Act.put, List.setIfInBounds_toArray, List.set_cons_zero, List.set_cons_succ]
          refine hK _ _ hS63 fun _ => ?_
          clear hK K
          refine takeH 10 rfl rfl (some 64) rfl (.string (B k2)) (by kernel_rfl) (by kernel_rfl) (by kernel_rfl) (fun _ _ _ h => h) (fun w1 _ => by rw [← HK2.out]; exact runCat _ _ _ rfl rfl rfl hcl) hS63 ?_
          simp only [Act.put, List.setIfInBounds_toArray, List.set_cons_zero, List.set_cons_succ]
          refine oneH 4 rfl rfl (by kernel_rfl) fun K hK => ?_
          refine wpH_call (some 58) rfl 13 #[.int .i64 (size : Int), .string (B key), .slice (some ⟨b63, 0, none⟩) 1 1] (by kernel_rfl) _ _ (HS1.out _ W63 (HG.out.below hS63) hc3_63) fun W67 hn => ?_
          simp only [Act.put, List.setIfInBounds_toArray, List.set_cons_zero, List.set_cons_succ]
          have hS67 := hS63.trans (hn.mono hS63.size)
          refine hK _ _ hS67 fun _ => ?_
          clear hK K
          have hc12_67 := cell_below hc12_63 hn
          clear hn
          refine oneH 13 rfl rfl (by kernel_rfl) fun K hK => ?_
          refine wpH_call (some 67) rfl 13 #[.int .i64 (size : Int), .string (B k2), .slice (some ⟨b62, 0, none⟩) 1 1] (by kernel_rfl) _ _ (HS2.out _ W67 (HG.out.below hS67) hc12_67) fun Wz hWz => ?_
          simp only [Act.put, List.setIfInBounds_toArray, List.set_cons_zero, List.set_cons_succ]
          have hSz := hS67.trans (hWz.mono hS67.size)
          refine hK _ _ hSz fun _ => ?_
          clear hK K
          refine takeH 14 rfl rfl (some 68) rfl (.bool true) (by kernel_rfl) (by kernel_rfl) (by kernel_rfl) (fun _ _ _ h => h) (fun w1 _ => runEqT _ _ _ rfl rfl rfl) hSz ?_
          simp only [Act.put, List.setIfInBounds_toArray, List.set_cons_zero, List.set_cons_succ]
          refine takeH 15 rfl rfl (some 6) rfl (.bool true) (by kernel_rfl) (by kernel_rfl) (by kernel_rfl) (fun _ _ _ h => h) (fun _ _ => rfl) hSz ?_
          simp only [Act.put, List.setIfInBounds_toArray, List.set_cons_zero, List.set_cons_succ]
          refine wpAnyH_done (by kernel_rfl) ?_ _
          go_wp2
          go_ret
          exact ⟨rfl, hSz⟩
      · refine wpH_run (w' := W62) (some 63) rfl (.string (B ((zeros k).map UInt8.ofNat))) (runStr _ rfl rfl (zeros_length k) hc8_62) ?_
        simp only [Act.put, List.setIfInBounds_toArray, List.set_cons_zero, List.set_cons_succ]
        refine hK _ _ hS62 fun _ => ?_
        clear hK K
        refine takeH 10 rfl rfl (some 64) rfl (.string (B k2)) (by kernel_rfl) (by kernel_rfl) (by kernel_rfl) (fun _ _ _ h => h) (fun w1 _ => by rw [← HK2.out]; exact runCat _ _ _ rfl rfl rfl hcl) hS62 ?_
        simp only [Act.put, List.setIfInBounds_toArray, List.set_cons_zero, List.set_cons_succ]
        refine oneH 3 rfl rfl (by kernel_rfl) fun K hK => ?_
        have hn : Below W62.heap.size W62 (W62.alloc (.cells #[.string (B t)] 9)) := (Below.refl _ _).alloc (Nat.le_refl _) _
        have hc3_69 : (W62.alloc (.cells #[.string (B t)] 9)).cell? ⟨W62.heap.size, 0, none⟩ = some (.string (B t)) := by rw [World.cell?_alloc_new]; rfl
        refine wpH_run (w' := W62.alloc (.cells #[.string (B t)] 9)) (some 57) rfl (.slice (some ⟨W62.heap.size, 0, none⟩) 1 1) (by kernel_rfl) ?_
        simp only [Act.put, List.setIfInBounds_toArray, List.set_cons_zero, List.set_cons_succ]
        have hS69 := hS62.trans (hn.mono hS62.size)
        refine hK _ _ hS69 fun _ => ?_
        clear hK K
        have hc12_69 := cell_below hc12_62 hn
        clear hn
        generalize W62.alloc (.cells #[.string (B t)] 9) = W69 at *
        generalize W62.heap.size = b69 at *
        refine oneH 4 rfl rfl (by kernel_rfl) fun K hK => ?_
        refine wpH_call (some 58) rfl 13 #[.int .i64 (size : Int), .string (B key), .slice (some ⟨b69, 0, none⟩) 1 1] (by kernel_rfl) _ _ (HS1.out _ W69 (HG.out.below hS69) hc3_69) fun W70 hn => ?_
        simp only [Act.put, List.setIfInBounds_toArray, List.set_cons_zero, List.set_cons_succ]
        have hS70 := hS69.trans (hn.mono hS69.size)
        refine hK _ _ hS70 fun _ => ?_
        clear hK K
        have hc12_70 := cell_below hc12_69 hn
        clear hn
        refine oneH 13 rfl rfl (by kernel_rfl) fun K hK => ?_
        refine wpH_call (some 67) rfl 13 #[.int .i64 (size : Int), .string (B k2), .slice (some ⟨b62, 0, none⟩) 1 1] (by kernel_rfl) _ _ (HS2.out _ W70 (HG.out.below hS70) hc12_70) fun Wz hWz => ?_
        simp only [Act.put, List.setIfInBounds_toArray, List.set_cons_zero, List.set_cons_succ]
        have hSz := hS70.trans (hWz.mono hS70.size)
        refine hK _ _ hSz fun _ => ?_
        clear hK K
        refine takeH 14 rfl rfl (some 68) rfl (.bool true) (by kernel_rfl) (by kernel_rfl) (by kernel_rfl) (fun _ _ _ h => h) (fun w1 _ => runEqT _ _ _ rfl rfl rfl) hSz ?_
        simp only [Act.put, List.setIfInBounds_toArray, List.set_cons_zero, List.set_cons_succ]
        refine takeH 15 rfl rfl (some 6) rfl (.bool true) (by kernel_rfl) (by kernel_rfl) (by kernel_rfl) (fun _ _ _ h => h) (fun _ _ => rfl) hSz ?_
        simp only [Act.put, List.setIfInBounds_toArray, List.set_cons_zero, List.set_cons_succ]
        refine wpAnyH_done (by kernel_rfl) ?_ _
        go_wp2
        go_ret
        exact ⟨rfl, hSz⟩
  · have hn : Below W0.heap.size W0 (W0.alloc (.cells #[.string (B t)] 9)) := (Below.refl _ _).alloc (Nat.le_refl _) _
    have hc12_71 : (W0.alloc (.cells #[.string (B t)] 9)).cell? ⟨W0.heap.size, 0, none⟩ = some (.string (B t)) := by rw [World.cell?_alloc_new]; rfl
    refine wpH_run (w' := W0.alloc (.cells #[.string (B t)] 9)) (some 66) rfl (.slice (some ⟨W0.heap.size, 0, none⟩) 1 1) (by kernel_rfl) ?_
    simp only [Act.put, List.setIfInBounds_toArray, List.set_cons_zero, List.set_cons_succ]
    have hS71 := hS.trans (hn.mono hS.size)
    refine hK _ _ hS71 fun _ => ?_
    clear hK K
    clear hn
    generalize W0.alloc (.cells #[.string (B t)] 9) = W71 at *
    generalize W0.heap.size = b71 at *
    refine twoH 3 8 rfl rfl rfl rfl (by kernel_rfl) (fun K hK => ?_) (fun K hK => ?_)
    · have hn : Below W71.heap.size W71 (W71.alloc (.cells #[.string (B t)] 9)) := (Below.refl _ _).alloc (Nat.le_refl _) _
      have hc3_72 : (W71.alloc (.cells #[.string (B t)] 9)).cell? ⟨W71.heap.size, 0, none⟩ = some (.string (B t)) := by rw [World.cell?_alloc_new]; rfl
      refine wpH_run (w' := W71.alloc (.cells #[.string (B t)] 9)) (some 57) rfl (.slice (some ⟨W71.heap.size, 0, none⟩) 1 1) (by kernel_rfl) ?_
      simp only [Act.put, List.setIfInBounds_toArray, List.set_cons_zero, List.set_cons_succ]
      have hS72 := hS71.trans (hn.mono hS71.size)
      refine hK _ _ hS72 fun _ => ?_
      clear hK K
      have hc12_72 := cell_below hc12_71 hn
      clear hn
      generalize W71.alloc (.cells #[.string (B t)] 9) = W72 at *
      generalize W71.heap.size = b72 at *
      refine twoH 4 8 rfl rfl rfl rfl (by kernel_rfl) (fun K hK => ?_) (fun K hK => ?_)
      · refine wpH_call (some 58) rfl 13 #[.int .i64 (size : Int), .string (B key), .slice (some ⟨b72, 0, none⟩) 1 1] (by kernel_rfl) _ _ (HS1.out _ W72 (HG.out.below hS72) hc3_72) fun W73 hn => ?_
        simp only [Act.put, List.setIfInBounds_toArray, List.set_cons_zero, List.set_cons_succ]
        have hS73 := hS72.trans (hn.mono hS72.size)
        refine hK _ _ hS73 fun _ => ?_
        clear hK K
        have hc12_73 := cell_below hc12_72 hn
        clear hn
        refine oneH 8 rfl rfl (by kernel_rfl) fun K hK => ?_
        have hn : Below W73.heap.size W73 (W73.alloc (.cells (nums .u8 (zeros k)) 5)) := (Below.refl _ _).alloc (Nat.le_refl _) _
        have hc8_74 : NumsAt (W73.alloc (.cells (nums .u8 (zeros k)) 5)) W73.heap.size 5 .u8 (zeros k) := NumsAt.new W73 _ _ _
        refine wpH_run (w' := W73.alloc (.cells (nums .u8 (zeros k)) 5)) (some 62) rfl (.slice (some ⟨W73.heap.size, 0, none⟩) k k) (runMake _ _ rfl rfl rfl hkl) ?_
        simp only [Act.put, List.setIfInBounds_toArray, List.set_cons_zero, List.set_cons_succ]
        have hS74 := hS73.trans (hn.mono hS73.size)
        refine hK _ _ hS74 fun _ => ?_
        clear hK K
        have hc12_74 := cell_below hc12_73 hn
        clear hn
        generalize W73.alloc (.cells (nums .u8 (zeros k)) 5) = W74 at *
        generalize W73.heap.size = b74 at *
        refine oneH 9 rfl rfl (by kernel_rfl) fun K hK => ?_
        refine wpH_run (w' := W74) (some 63) rfl (.string (B ((zeros k).map UInt8.ofNat))) (runStr _ rfl rfl (zeros_length k) hc8_74) ?_
        simp only [Act.put, List.setIfInBounds_toArray, List.set_cons_zero, List.set_cons_succ]
        refine hK _ _ hS74 fun _ => ?_
        clear hK K
        refine takeH 10 rfl rfl (some 64) rfl (.string (B k2)) (by kernel_rfl) (by kernel_rfl) (by kernel_rfl) (fun _ _ _ h => h) (fun w1 _ => by rw [← HK2.out]; exact runCat _ _ _ rfl rfl rfl hcl) hS74 ?_
        simp only [Act.put, List.setIfInBounds_toArray, List.set_cons_zero, List.set_cons_succ]
        refine oneH 13 rfl rfl (by kernel_rfl) fun K hK => ?_
        refine wpH_call (some 67) rfl 13 #[.int .i64 (size : Int), .string (B k2), .slice (some ⟨b71, 0, none⟩) 1 1] (by kernel_rfl) _ _ (HS2.out _ W74 (HG.out.below hS74) hc12_74) fun Wz hWz => ?_
        simp only [Act.put, List.setIfInBounds_toArray, List.set_cons_zero, List.set_cons_succ]
        have hSz := hS74.trans (hWz.mono hS74.size)
        refine hK _ _ hSz fun _ => ?_
        clear hK K
        refine takeH 14 rfl rfl (some 68) rfl (.bool true) (by kernel_rfl) (by kernel_rfl) (by kernel_rfl) (fun _ _ _ h => h) (fun w1 _ => runEqT _ _ _ rfl rfl rfl) hSz ?_
        simp only [Act.put, List.setIfInBounds_toArray, List.set_cons_zero, List.set_cons_succ]
        refine takeH 15 rfl rfl (some 6) rfl (.bool true) (by kernel_rfl) (by kernel_rfl) (by kernel_rfl) (fun _ _ _ h => h) (fun _ _ => rfl) hSz ?_
        simp only [Act.put, List.setIfInBounds_toArray, List.set_cons_zero, List.set_cons_succ]
        refine wpAnyH_done (by kernel_rfl) ?_ _
        go_wp2
        go_ret
        exact ⟨rfl, hSz⟩
      · have hn : Below W72.heap.size W72 (W72.alloc (.cells (nums .u8 (zeros k)) 5)) := (Below.refl _ _).alloc (Nat.le_refl _) _
        have hc8_76 : NumsAt (W72.alloc (.cells (nums .u8 (zeros k)) 5)) W72.heap.size 5 .u8 (zeros k) := NumsAt.new W72 _ _ _
        refine wpH_run (w' := W72.alloc (.cells (nums .u8 (zeros k)) 5)) (some 62) rfl (.slice (some ⟨W72.heap.size, 0, none⟩) k k) (runMake _ _ rfl rfl rfl hkl) ?_
        simp only [Act.put, List.setIfInBounds_toArray, List.set_cons_zero, List.set_cons_succ]
        have hS76 := hS72.trans (hn.mono hS72.size)
        refine hK _ _ hS76 fun _ => ?_
        clear hK K
        have hc12_76 := cell_below hc12_72 hn
        have hc3_76 := cell_below hc3_72 hn
        clear hn
        generalize W72.alloc (.cells (nums .u8 (zeros k)) 5) = W76 at *
        generalize W72.heap.size = b76 at *
        refine twoH 4 9 rfl rfl rfl rfl (by kernel_rfl) (fun K hK => ?_) (fun K hK => ?_)
        · refine wpH_call (some 58) rfl 13 #[.int .i64 (size : Int), .string (B key), .slice (some ⟨b72, 0, none⟩) 1 1] (by kernel_rfl) _ _ (HS1.out _ W76 (HG.out.below hS76) hc3_76) fun W77 hn => ?_
          simp only [Act.put, List.setIfInBounds_toArray, List.set_cons_zero, List.set_cons_succ]
          have hS77 := hS76.trans (hn.mono hS76.size)
          refine hK _ _ hS77 fun _ => ?_
          clear hK K
          have hc12_77 := cell_below hc12_76 hn
          have hc8_77 := NumsAt.below hc8_76 hn
          clear hn
          refine oneH 9 rfl rfl (by kernel_rfl) fun K hK => ?_
          refine wpH_run (w' := W77) (some 63) rfl (.string (B ((zeros k).map UInt8.ofNat))) (runStr _ rfl rfl (zeros_length k) hc8_77) ?_
          simp only [Act.put, List.setIfInBounds_toArray, List.set_cons_zero, List.set_cons_succ]
          refine hK _ _ hS77 fun _ => ?_
          clear hK K
          refine takeH 10 rfl rfl (some 64) rfl (.string (B k2)) (by kernel_rfl) (by kernel_rfl) (by kernel_rfl) (fun _ _ _ h => h) (fun w1 _ => by rw [← HK2.out]; exact runCat _ _ _ rfl rfl rfl hcl) hS77 ?_
          simp only [Act.put, List.setIfInBounds_toArray, List.set_cons_zero, List.set_cons_succ]
          refine oneH 13 rfl rfl (by kernel_rfl) fun K hK => ?_
          refine wpH_call (some 67) rfl 13 #[.int .i64 (size : Int), .string (B k2), .slice (some ⟨b71, 0, none⟩) 1 1] (by kernel_rfl) _ _ (HS2.out _ W77 (HG.out.below hS77) hc12_77) fun Wz hWz => ?_
          simp only [Act.put, List.setIfInBounds_toArray, List.set_cons_zero, List.set_cons_succ]
          have hSz := hS77.trans (hWz.mono hS77.size)
          refine hK _ _ hSz fun _ => ?_
          clear hK K
          refine takeH 14 rfl rfl (some 68) rfl (.bool true) (by kernel_rfl) (by kernel_rfl) (by kernel_rfl) (fun _ _ _ h => h) (fun w1 _ => runEqT _ _ _ rfl rfl rfl) hSz ?_
          simp only [Act.put, List.setIfInBounds_toArray, List.set_cons_zero, List.set_cons_succ]
          refine takeH 15 rfl rfl (some 6) rfl (.bool true) (by kernel_rfl) (by kernel_rfl) (by kernel_rfl) (fun _ _ _ h => h) (fun _ _ => rfl) hSz ?_
          simp only [Act.put, List.setIfInBounds_toArray, List.set_cons_zero, List.set_cons_succ]
          refine wpAnyH_done (by kernel_rfl) ?_ _
          go_wp2
          go_ret
          exact ⟨rfl, hSz⟩
        · refine wpH_run (w' := W76) (some 63) rfl (.string (B ((zeros k).map UInt8.ofNat))) (runStr _ rfl rfl (zeros_length k) hc8_76) ?_
          simp only [Act.put, List.setIfInBounds_toArray, List.set_cons_zero, List.set_cons_succ]
          refine hK _ _ hS76 fun _ => ?_
          clear hK K
          refine takeH 10 rfl rfl (some 64) rfl (.string (B k2)) (by kernel_rfl) (by kernel_rfl) (by kernel_rfl) (fun _ _ _ h => h) (fun w1 _ => by rw [← HK2.out]; exact runCat _ _ _ rfl rfl rfl hcl) hS76 ?_
          simp only [Act.put, List.setIfInBounds_toArray, List.set_cons_zero, List.set_cons_succ]
          refine oneH 4 rfl rfl (by kernel_rfl) fun K hK => ?_
          refine wpH_call (some 58) rfl 13 #[.int .i64 (size : Int), .string (B key), .slice (some ⟨b72, 0, none⟩) 1 1] (by kernel_rfl) _ _ (HS1.out _ W76 (HG.out.below hS76) hc3_76) fun W80 hn => ?_
          simp only [Act.put, List.setIfInBounds_toArray, List.set_cons_zero, List.set_cons_succ]
          have hS80 := hS76.trans (hn.mono hS76.size)
          refine hK _ _ hS80 fun _ => ?_
          clear hK K
          have hc12_80 := cell_below hc12_76 hn
          clear hn
          refine oneH 13 rfl rfl (by kernel_rfl) fun K hK => ?_
          refine wpH_call (some 67) rfl 13 #[.int .i64 (size : Int), .string (B k2), .slice (some ⟨b71, 0, none⟩) 1 1] (by kernel_rfl) _ _ (HS2.out _ W80 (HG.out.below hS80) hc12_80) fun Wz hWz => ?_
          simp only [Act.put, List.setIfInBounds_toArray, List.set_cons_zero, List.set_cons_succ]
          have hSz := hS80.trans (hWz.mono hS80.size)
          refine hK _ _ hSz fun _ => ?_
          clear hK K
          refine takeH 14 rfl rfl (some 68) rfl (.bool true) (by kernel_rfl) (by kernel_rfl) (by kernel_rfl) (fun _ _ _ h => h) (fun w1 _ => runEqT _ _ _ rfl rfl rfl) hSz ?_
          simp only [Act.put, List.setIfInBounds_toArray, List.set_cons_zero, List.set_cons_succ]
          refine takeH 15 rfl rfl (some 6) rfl (.bool true) (by kernel_rfl) (by kernel_rfl) (by kernel_rfl) (fun _ _ _ h => h) (fun _ _ => rfl) hSz ?_
          simp only [Act.put, List.setIfInBounds_toArray, List.set_cons_zero, List.set_cons_succ]
          refine wpAnyH_done (by kernel_rfl) ?_ _
          go_wp2
          go_ret
          exact ⟨rfl, hSz⟩
    · have hn : Below W71.heap.size W71 (W71.alloc (.cells (nums .u8 (zeros k)) 5)) := (Below.refl _ _).alloc (Nat.le_refl _) _
      have hc8_81 : NumsAt (W71.alloc (.cells (nums .u8 (zeros k)) 5)) W71.heap.size 5 .u8 (zeros k) := NumsAt.new W71 _ _ _
      refine wpH_run (w' := W71.alloc (.cells (nums .u8 (zeros k)) 5)) (some 62) rfl (.slice (some ⟨W71.heap.size, 0, none⟩) k k) (runMake _ _ rfl rfl rfl hkl) ?_
      simp only [Act.put, List.setIfInBounds_toArray, List.set_cons_zero, List.set_cons_succ]
      have hS81 := hS71.trans (hn.mono hS71.size)
      refine hK _ _ hS81 fun _ => ?_
      clear hK K
      have hc12_81 := cell_below hc12_71 hn
      clear hn
      generalize W71.alloc (.cells (nums .u8 (zeros k)) 5) = W81 at *
      generalize W71.heap.size = b81 at *
      refine twoH 3 9 rfl rfl rfl rfl (by kernel_rfl) (fun K hK => ?_) (fun K hK => ?_)
      · have hn : Below W81.heap.size W81 (W81.alloc (.cells #[.string (B t)] 9)) := (Below.refl _ _).alloc (Nat.le_refl _) _
        have hc3_82 : (W81.alloc (.cells #[.string (B t)] 9)).cell? ⟨W81.heap.size, 0, none⟩ = some (.string (B t)) := by rw [World.cell?_alloc_new]; rfl
        refine wpH_run (w' := W81.alloc (.cells #[.string (B t)] 9)) (some 57) rfl (.slice (some ⟨W81.heap.size, 0, none⟩) 1 1) (by kernel_rfl) ?_
        simp only [Act.put, List.setIfInBounds_toArray, List.set_cons_zero, List.set_cons_succ]
        have hS82 := hS81.trans (hn.mono hS81.size)
        refine hK _ _ hS82 fun _ => ?_
        clear hK K
        have hc12_82 := cell_below hc12_81 hn
        have hc8_82 := NumsAt.below hc8_81 hn
        clear hn
        generalize W81.alloc (.cells #[.string (B t)] 9) = W82 at *
        generalize W81.heap.size = b82 at *
        refine twoH 4 9 rfl rfl rfl rfl (by kernel_rfl) (fun K hK => ?_) (fun K hK => ?_)
        · refine wpH_call (some 58) rfl 13 #[.int .i64 (size : Int), .string (B key), .slice (some ⟨b82, 0, none⟩) 1 1] (by kernel_rfl) _ _ (HS1.out _ W82 (HG.out.below hS82) hc3_82) fun W83 hn => ?_
          simp only [Act.put, List.setIfInBounds_toArray, List.set_cons_zero, List.set_cons_succ]
          have hS83 := hS82.trans (hn.mono hS82.size)
          refine hK _ _ hS83 fun _ => ?_
          clear hK K
          have hc12_83 := cell_below hc12_82 hn
          have hc8_83 := NumsAt.below hc8_82 hn
          clear hn
          refine oneH 9 rfl rfl (by kernel_rfl) fun K hK => ?_
          refine wpH_run (w' := W83) (some 63) rfl (.string (B ((zeros k).map UInt8.ofNat))) (runStr _ rfl rfl (zeros_length k) hc8_83) ?_
          simp only [Act.put, List.setIfInBounds_toArray, List.set_cons_zero, List.set_cons_succ]
          refine hK _ _ hS83 fun _ => ?_
          clear hK K
          refine takeH 10 rfl rfl (some 64) rfl (.string (B k2)) (by kernel_rfl) (by kernel_rfl) (by kernel_rfl) (fun _ _ _ h => h) (fun w1 _ => by rw [← HK2.out]; exact runCat _ _ _ rfl rfl rfl hcl) hS83 ?_
          simp only [Act.put, List.setIfInBounds_toArray, List.set_cons_zero, List.set_cons_succ]
          refine oneH 13 rfl rfl (by kernel_rfl) fun K hK => ?_
          refine wpH_call (some 67) rfl 13 #[.int .i64 (size : Int), .string (B k2), .slice (some ⟨b71, 0, none⟩) 1 1] (by kernel_rfl) _ _ (HS2.out _ W83 (HG.out.below hS83) hc12_83) fun Wz hWz => ?_
          simp only [Act.put, List.setIfInBounds_toArray, List.set_cons_zero, List.set_cons_succ]
          have hSz := hS83.trans (hWz.mono hS83.size)
          refine hK _ _ hSz fun _ => ?_
          clear hK K
          refine takeH 14 rfl rfl (some 68) rfl (.bool true) (by kernel_rfl) (by kernel_rfl) (by kernel_rfl) (fun _ _ _ h => h) (fun w1 _ => runEqT _ _ _ rfl rfl rfl) hSz ?_
          simp only [Act.put, List.setIfInBounds_toArray, List.set_cons_zero, List.set_cons_succ]
          refine takeH 15 rfl rfl (some 6) rfl (.bool true) (by kernel_rfl) (by kernel_rfl) (by kernel_rfl) (fun _ _ _ h => h) (fun _ _ => rfl) hSz ?_
          simp only [Act.put, List.setIfInBounds_toArray, List.set_cons_zero, List.set_cons_succ]
          refine wpAnyH_done (by kernel_rfl) ?_ _
          go_wp2
          go_ret
          exact ⟨rfl, hSz⟩
        · refine wpH_run (w' := W82) (some 63) rfl (.string (B ((zeros k).map UInt8.ofNat))) (runStr _ rfl rfl (zeros_length k) hc8_82) ?_
          simp only [Act.put, List.setIfInBounds_toArray, List.set_cons_zero, List.set_cons_succ]
          refine hK _ _ hS82 fun _ => ?_
          clear hK K
          refine takeH 10 rfl rfl (some 64) rfl (.string (B k2)) (by kernel_rfl) (by kernel_rfl) (by kernel_rfl) (fun _ _ _ h => h) (fun w1 _ => by rw [← HK2.out]; exact runCat _ _ _ rfl rfl rfl hcl) hS82 ?_
          simp only [Act.put, List.setIfInBounds_toArray, List.set_cons_zero, List.set_cons_succ]
          refine oneH 4 rfl rfl (by kernel_rfl) fun K hK => ?_
          refine wpH_call (some 58) rfl 13 #[.int .i64 (size : Int), .string (B key), .slice (some ⟨b82, 0, none⟩) 1 1] (by kernel_rfl) _ _ (HS1.out _ W82 (HG.out.below hS82) hc3_82) fun W86 hn => ?_
          simp only [Act.put, List.setIfInBounds_toArray, List.set_cons_zero, List.set_cons_succ]
          have hS86 := hS82.trans (hn.mono hS82.size)
          refine hK _ _ hS86 fun _ => ?_
          clear hK K
          have hc12_86 := cell_below hc12_82 hn
          clear hn
          refine oneH 13 rfl rfl (by kernel_rfl) fun K hK => ?_
          refine wpH_call (some 67) rfl 13 #[.int .i64 (size : Int), .string (B k2), .slice (some ⟨b71, 0, none⟩) 1 1] (by kernel_rfl) _ _ (HS2.out _ W86 (HG.out.below hS86) hc12_86) fun Wz hWz => ?_
          simp only [Act.put, List.setIfInBounds_toArray, List.set_cons_zero, List.set_cons_succ]
          have hSz := hS86.trans (hWz.mono hS86.size)
          refine hK _ _ hSz fun _ => ?_
          clear hK K
          refine takeH 14 rfl rfl (some 68) rfl (.bool true) (by kernel_rfl) (by kernel_rfl) (by kernel_rfl) (fun _ _ _ h => h) (fun w1 _ => runEqT _ _ _ rfl rfl rfl) hSz ?_
          simp only [Act.put, List.setIfInBounds_toArray, List.set_cons_zero, List.set_cons_succ]
          refine takeH 15 rfl rfl (some 6) rfl (.bool true) (by kernel_rfl) (by kernel_rfl) (by kernel_rfl) (fun _ _ _ h => h) (fun _ _ => rfl) hSz ?_
          simp only [Act.put, List.setIfInBounds_toArray, List.set_cons_zero, List.set_cons_succ]
          refine wpAnyH_done (by kernel_rfl) ?_ _
          go_wp2
          go_ret
          exact ⟨rfl, hSz⟩
      · refine wpH_run (w' := W81) (some 63) rfl (.string (B ((zeros k).map UInt8.ofNat))) (runStr _ rfl rfl (zeros_length k) hc8_81) ?_
        simp only [Act.put, List.setIfInBounds_toArray, List.set_cons_zero, List.set_cons_succ]
        refine hK _ _ hS81 fun _ => ?_
        clear hK K
        refine takeH 10 rfl rfl (some 64) rfl (.string (B k2)) (by kernel_rfl) (by kernel_rfl) (by kernel_rfl) (fun _ _ _ h => h) (fun w1 _ => by rw [← HK2.out]; exact runCat _ _ _ rfl rfl rfl hcl) hS81 ?_
        simp only [Act.put, List.setIfInBounds_toArray, List.set_cons_zero, List.set_cons_succ]
        refine oneH 3 rfl rfl (by kernel_rfl) fun K hK => ?_
        have hn : Below W81.heap.size W81 (W81.alloc (.cells #[.string (B t)] 9)) := (Below.refl _ _).alloc (Nat.le_refl _) _
        have hc3_88 : (W81.alloc (.cells #[.string (B t)] 9)).cell? ⟨W81.heap.size, 0, none⟩ = some (.string (B t)) := by rw [World.cell?_alloc_new]; rfl
        refine wpH_run (w' := W81.alloc (.cells #[.string (B t)] 9)) (some 57) rfl (.slice (some ⟨W81.heap.size, 0, none⟩) 1 1) (by kernel_rfl) ?_
        simp only [Act.put, List.setIfInBounds_toArray, List.set_cons_zero, List.set_cons_succ]
        have hS88 := hS81.trans (hn.mono hS81.size)
        refine hK _ _ hS88 fun _ => ?_
        clear hK K
        have hc12_88 := cell_below hc12_81 hn
        clear hn
        generalize W81.alloc (.cells #[.string (B t)] 9) = W88 at *
        generalize W81.heap.size = b88 at *
        refine oneH 4 rfl rfl (by kernel_rfl) fun K hK => ?_
        refine wpH_call (some 58) rfl 13 #[.int .i64 (size : Int), .string (B key), .slice (some ⟨b88, 0, none⟩) 1 1] (by kernel_rfl) _ _ (HS1.out _ W88 (HG.out.below hS88) hc3_88) fun W89 hn => ?_
        simp only [Act.put, List.setIfInBounds_toArray, List.set_cons_zero, List.set_cons_succ]
        have hS89 := hS88.trans (hn.mono hS88.size)
        refine hK _ _ hS89 fun _ => ?_
        clear hK K
        have hc12_89 := cell_below hc12_88 hn
        clear hn
        refine oneH 13 rfl rfl (by kernel_rfl) fun K hK => ?_
        refine wpH_call (some 67) rfl 13 #[.int .i64 (size : Int), .string (B k2), .slice (some ⟨b71, 0, none⟩) 1 1] (by kernel_rfl) _ _ (HS2.out _ W89 (HG.out.below hS89) hc12_89) fun Wz hWz => ?_
        simp only [Act.put, List.setIfInBounds_toArray, List.set_cons_zero, List.set_cons_succ]
        have hSz := hS89.trans (hWz.mono hS89.size)
        refine hK _ _ hSz fun _ => ?_
        clear hK K
        refine takeH 14 rfl rfl (some 68) rfl (.bool true) (by kernel_rfl) (by kernel_rfl) (by kernel_rfl) (fun _ _ _ h => h) (fun w1 _ => runEqT _ _ _ rfl rfl rfl) hSz ?_
        simp only [Act.put, List.setIfInBounds_toArray, List.set_cons_zero, List.set_cons_succ]
        refine takeH 15 rfl rfl (some 6) rfl (.bool true) (by kernel_rfl) (by kernel_rfl) (by kernel_rfl) (fun _ _ _ h => h) (fun _ _ => rfl) hSz ?_
        simp only [Act.put, List.setIfInBounds_toArray, List.set_cons_zero, List.set_cons_succ]
        refine wpAnyH_done (by kernel_rfl) ?_ _
        go_wp2
        go_ret
        exact ⟨rfl, hSz⟩
set_option maxHeartbeats 3200000 in
set_option maxRecDepth 100000 in
theorem keys_out (p r : Nat) (key t : List UInt8) (w : World) (hg : GlobAt w) (_hp : p < 256) (hr : r < 256) (h5 : ¬ ((key.length : Int) ≤ 300 ∧ (t.length : Int) ≤ 200)) :
    Calls Tryd.prog 6 #[.agg #[.int .u8 (p : Int), .int .u8 (r : Int)], .string (B key), .string (B t)] w fun e w' => e = .returned (.bool true) ∧ Below w.heap.size w w' := by
  have H0 := Lib.hid awake6_any
  have hb0 : Below w.heap.size w (w.alloc (.cells #[.int .u8 (p : Int), .int .u8 (r : Int)] 30)) := (Below.refl w.heap.size w).alloc (Nat.le_refl _) _
  have hin : (w.alloc (.cells #[.int .u8 (p : Int), .int .u8 (r : Int)] 30)).heap[w.heap.size]? = some (.cells #[.int .u8 (p : Int), .int .u8 (r : Int)] 30 (0, 0)) := heap_alloc_last w _
  have hwl : w.heap.size < (w.alloc (.cells #[.int .u8 (p : Int), .int .u8 (r : Int)] 30)).heap.size := by simp
  have HG := Lib.hid hg
  clear hg
  by_cases hk3 : (key.length : Int) ≤ 300
  · have ht2 : ¬ (t.length : Int) ≤ 200 := fun h => h5 ⟨hk3, h⟩
    clear h5
    go_enter Tryd.func6, Tryd.ntmps6
    go_wp2_with fail
    refine Calls.ext (H0.out _ (HG.out.below hb0)) fun u1 => ?_
    go_wp2_with fail
    refine Calls.ext (H0.out _ ((HG.out.below hb0).below (ext_below _ _))) fun u2 => ?_
    go_wp2
    go_ret
    exact ⟨rfl, by ((repeat' (with_reducible first | exact Below.refl _ _ | assumption | refine Below.drew ?_ | refine below_drewN ?_ _ | refine Below.setCell ?_ ?_ _ | refine Below.alloc ?_ ?_ _ | refine Below.ext ?_ ?_ _ | refine Below.trans ?_ (Below.mono ‹_› ?_))) <;> first | omega | (simp; done) | (simp; omega))⟩
  · clear h5
    go_enter Tryd.func6, Tryd.ntmps6
    go_wp2_with fail
    refine Calls.ext (H0.out _ (HG.out.below hb0)) fun u1 => ?_
    go_wp2_with fail
    refine Calls.ext (H0.out _ ((HG.out.below hb0).below (ext_below _ _))) fun u2 => ?_
    go_wp2
    go_ret
    exact ⟨rfl, by ((repeat' (with_reducible first | exact Below.refl _ _ | assumption | refine Below.drew ?_ | refine below_drewN ?_ _ | refine Below.setCell ?_ ?_ _ | refine Below.alloc ?_ ?_ _ | refine Below.ext ?_ ?_ _ | refine Below.trans ?_ (Below.mono ‹_› ?_))) <;> first | omega | (simp; done) | (simp; omega))⟩
theorem keys_law (p r : Nat) (key t : List UInt8) (w : World) (hg : GlobAt w) (_hp : p < 256) (hr : r < 256) :
    Calls Tryd.prog 6 #[.agg #[.int .u8 (p : Int), .int .u8 (r : Int)], .string (B key), .string (B t)] w fun e w' => e = .returned (.bool true) ∧ Below w.heap.size w w' := by
  by_cases h5 : (key.length : Int) ≤ 300 ∧ (t.length : Int) ≤ 200
  · by_cases hlong : blkN (sizeL (p % 3)) < key.length
    · exact keys_long p r key t w hg _hp hr h5.1 h5.2 hlong
    · exact keys_short p r key t w hg _hp hr h5.1 h5.2 hlong
  · exact keys_out p r key t w hg _hp hr h5
set_option maxRecDepth 100000 in
theorem walk (W : World) (base : Nat) (args : Array Value) {H : Type} {enc : TypeId × Value → H} (ds : List (DataW H)) (ps : List MemPlace) (hg : GlobAt W)
    (hval : ∀ (j : Nat) t v, Tryd.f6.params[j]? = some t → args[j]? = some v → Value.okWide Tryd.prog W .any base t v)
    (hA : DataW.TrodAll enc Tryd.prog W 0 (fun _ => true) true Tryd.f6.params.toList args.toList ds ps) (hlt : ∀ p ∈ ps, p.block < W.heap.size) :
    Calls Tryd.prog 6 args W fun e W' => e = .returned (.bool true) ∧ Below W.heap.size W W' := by
  rw [Tryd.params6] at hA hval
  obtain ⟨v0, v1, v2, d0, d1, d2, p0, p1, p2, rfl, rfl, rfl, h0, h1, h2⟩ := trodAll_three hA
  obtain ⟨cs, rfl, hall⟩ := open_flat [5, 5] (hval 0 30 v0 rfl rfl) h0 (fun p hp => hlt p (by simp [hp])) (by kernel_rfl) (by kernel_rfl) (by kernel_rfl)
  obtain ⟨a, rfl, ha⟩ := open_str Tryd.underlying9 (hval 1 9 v1 rfl rfl) h1 (fun p hp => hlt p (by simp [hp]))
  obtain ⟨b, rfl, hb⟩ := open_str Tryd.underlying9 (hval 2 9 v2 rfl rfl) h2 (fun p hp => hlt p (by simp [hp]))
  obtain ⟨c1, r1, rfl, l1, c2, r2, rfl, l2, rfl⟩ := hall
  obtain ⟨m, rfl, hm⟩ := l1.int Tryd.underlying5
  obtain ⟨y, rfl, hy⟩ := l2.int Tryd.underlying5
  have h1 : 0 ≤ m ∧ m < 256 := by
    simp [Lit.wf, IntKind.min, IntKind.max, IntKind.signed, IntKind.bits] at hm
    omega
  have h2 : 0 ≤ y ∧ y < 256 := by
    simp [Lit.wf, IntKind.min, IntKind.max, IntKind.signed, IntKind.bits] at hy
    omega
  obtain ⟨c, rfl⟩ : ∃ c : Nat, m = (c : Int) := ⟨m.toNat, by omega⟩
  obtain ⟨d, rfl⟩ : ∃ d : Nat, y = (d : Int) := ⟨y.toNat, by omega⟩
  exact keys_law c d a b W hg (by omega) (by omega)
set_option maxRecDepth 100000 in
theorem door_met (os : Os) (args : Array Value) : laidMetH Tryd.prog laidL ((World.doorLaid Tryd.prog 400 os).forCall (fun _ _ => 0) ⟨#[], args, []⟩).memory :=
  laidMetH_of_parts3 (fuel := 8) (laidMet_of_run' 8 (by kernel_rfl) (by kernel_rfl)) (by kernel_rfl) (by kernel_rfl)
set_option maxRecDepth 100000 in
theorem lifted (os : Os) (started : os.Started) (H : Type) (enc : TypeId × Value → H) :
    ReturnsInHanded {} Tryd.checked os 6 .any (fun w args => (Rows.hmacKeysSpec.pre enc Tryd.prog Tryd.f6 [] false w args ∧ laidMetH Tryd.prog laidL w) ∧ sizedMet enc Tryd.prog Tryd.f6 (OpenSpec.ofChange Rows.hmacKeysSpec) false w args) (Rows.hmacKeysSpec.post enc Tryd.prog Tryd.f6 false true false false) :=
  law_lift_laid (C := Tryd.checked) (tb := 4) (by kernel_rfl) started (by kernel_rfl) Tryd.func6
    (ChangeSpec.witness_shaped (enc := enc) (C := Tryd.checked) (os := os) (X := fun w _ => laidMetH Tryd.prog laidL w) false (World.doorLaid Tryd.prog 400 os) #[.agg #[.int .u8 0, .int .u8 0], .string ⟨#[]⟩, .string ⟨#[]⟩] 8 rfl (World.shaped_of_RefB (by kernel_rfl) (by kernel_rfl)) (by kernel_rfl) (by kernel_rfl) (by kernel_rfl) (door_met os _))
    (by kernel_rfl) (by kernel_rfl) rfl (by kernel_rfl) Tryd.underlying4 (fun ds h => by match ds, h with | [_, _, _], _ => exact ⟨rfl, rfl, rfl⟩)
    (fun W base args ds ps hL hval hA hlt => walk W base args ds ps (laid_glob hL) hval hA hlt)
theorem over : Rows.hmacKeysRow.holds Tryd.pinned (OpenSpec.ofChange Rows.hmacKeysSpec) :=
  OpenClaim.holds_of_wide 6 Tryd.f6 rfl rfl rfl rfl rfl rfl rfl ⟨rfl, rfl, rfl, rfl, rfl⟩ rfl rfl rfl rfl rfl (by kernel_rfl) Tryd.func6 (by kernel_rfl)
    (of_decide_eq_true (by kernel_rfl)) (by unfold Func.isWrapper; rw [if_neg (of_decide_eq_false (by kernel_rfl))]; exact ⟨rfl, rfl⟩)
    (fun os started H enc _ => lifted os started H enc)
theorem proved : Rows.HmacKeysCardSaid :=
  Claim7.holds_tied_plain_at .later [] [.data, .data] true (true, "2e3556fb2737b9446447295cc99a6f79054103e76f59878535ebabf517a44985") false
    over (fun _ h => by cases h) (by kernel_rfl) (fun _ h => by cases h) hmacKeys_row_tie rfl ⟨rfl, rfl⟩ (by kernel_rfl) rfl
    (fun f fn hf hfn => by
      obtain rfl : f = 6 := Option.some.inj ((show Tryd.prog.funcNamed "dromond/dromondlaw06.HmacKeys" = some 6 by kernel_rfl).symm.trans hf) |>.symm
      obtain rfl : fn = Tryd.f6 := (Option.some.inj (Tryd.func6.symm.trans hfn)).symm
      exact ⟨by kernel_rfl, fun j t ht => by
        have hm := Array.mem_of_getElem? ht
        have hall : (Tryd.f6.params.toList.all fun u => !Tryd.prog.wantsStandIn u) = true := by kernel_rfl
        exact (show Tryd.prog.wantsStandIn t = false by simpa using List.all_eq_true.1 hall t (by simpa using hm))⟩)
    (by kernel_rfl)
#print axioms proved
end Go.Proofs.YtpgadpnaekhiaaaDoor.HmacKeys
