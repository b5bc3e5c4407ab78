/-
  The walk of the AES reference's Words.
  Conditions: a key of 16 or 32 bytes.
-/
import Derived.Test.YtnnoimikoddbcaaRef07c
import Derived.BigRegion
import Derived.Test.YtnnoimikoddbcaaStl
namespace Go.Proofs.Ytnnoimikoddbcaa.Ref07
open Go.ChangeShapes Go.WideShapes Go.ChangeAt Go.RowKit Go.Deep Go.Great
open Go.Proofs.Ytnnoimikoddbcaa.Aes
theorem tab_succ (f : Nat → Nat) (n : Nat) : tab f (n + 1) = tab f n ++ [f n] := by simp [tab, List.range_succ]
theorem words_key (T : List Nat) (key : List UInt8) (n : Nat) : ∀ i, i ≤ n → wordsL T key n i = tab (byteF key) (4 * i)
  | 0, _ => rfl
  | i + 1, h => by
    rw [wordsL, words_key T key n i (by omega), nextW, if_pos (by omega), show 4 * (i + 1) = 4 * i + 1 + 1 + 1 + 1 by omega, tab_succ, tab_succ, tab_succ, tab_succ, keyW, show i * 4 = 4 * i by omega]
    simp
theorem IntsAt.cells {w : World} {base g n cap : Nat} {l : List Nat} (h : IntsAt w base (.slice (some ⟨g, 0, none⟩) n cap) l) (hn : n = l.length) : ∀ j, j < l.length → w.cell? ⟨g, j, none⟩ = some (.int .i64 ((l.getD j 0 : Nat) : Int)) := fun j hj => by
  subst hn
  have hh : w.ownsRow base 3 1 (.slice (some ⟨g, 0, none⟩) l.length cap) l.length (valsI l) := h
  rw [World.ownsRow.cellAt hh j (by omega)]
  simp [valsI, List.getD, hj]
theorem IntsAt.setRow {w : World} {base : Nat} {v : Value} {l : List Nat} (h : IntsAt w base v l) {b : Nat} {t : TypeId} {k : IntKind} {m : List Nat} (hb : NumsAt w b t k m) (ht : t ≠ 3) (cs : Array Value) : IntsAt (w.setRow b cs) base v l := by
  have hne := h.ne hb ht
  obtain ⟨h1, h2⟩ := h
  refine ⟨h1, ?_⟩
  rcases h2 with h2 | ⟨g, cap, cur, a, c, d, f⟩
  · exact .inl h2
  · refine .inr ⟨g, cap, cur, a, c, ?_, f⟩
    have hg := hne g (by rw [a]; rfl)
    unfold World.setRow
    simp only [Array.getElem?_modify]
    rw [if_neg hg]; exact d
theorem nums4i (a b c d : Nat) : #[Value.int .i64 ((a : Nat) : Int), .int .i64 ((b : Nat) : Int), .int .i64 ((c : Nat) : Int), .int .i64 ((d : Nat) : Int)] = nums .i64 [a, b, c, d] := rfl
set_option maxHeartbeats 3200000 in
set_option maxRecDepth 100000 in
theorem Words_any (key : List UInt8) (n : Nat) (w : World) (hkey : key.length = 4 * n) (hn : n = 4 ∨ n = 8) :
    Calls Try.prog 47 #[.agg (nums .i64 subT), .string (B key)] w fun e w' => ∃ v, e = .returned v ∧ IntsAt w' w.heap.size v (wordsL subT key n (4 * (n + 7))) ∧ Below w.heap.size w w' := by
  have hn4 : 4 ≤ n := by omega
  have hn8 : n ≤ 8 := by omega
  have hn0 : ¬ n = 0 := by omega
  have HN := Lib.hid hn
  have HTB := Lib.hid subT_bytes
  have hTL := subT_length
  have HKW := Lib.hid (words_key subT key n n (Nat.le_refl _))
  clear hn
  generalize subT = T at *
  go_enter Try.func47, Try.ntmps47
  go_wp2
  have htb := NumsAt.new w 77 .i64 T
  have hbel0 : Below w.heap.size w (w.alloc (.cells (nums .i64 T) 77)) := by ((repeat' (with_reducible first | exact Below.refl _ _ | assumption | refine Below.drew ?_ | refine below_drewN ?_ _ | refine Below.setCell ?_ ?_ _ | refine Below.alloc ?_ ?_ _ | refine Below.ext ?_ ?_ _ | refine Below.trans ?_ (Below.mono ‹_› ?_))) <;> first | omega | (simp; done) | (simp; omega))
  go_loopw [6, 7] (fun s6 s7 wr => ∃ i : Nat, i ≤ 4 * n ∧ s7 = .int .i64 i ∧ IntsAt wr w.heap.size s6 (tab (byteF key) i) ∧ NumsAt wr w.heap.size 77 .i64 T ∧ Below w.heap.size w wr) (fun _ s _ => 4 * n - (intOf s).toNat)
  case atStart => exact ⟨0, by omega, rfl, IntsAt.nil _ _, htb, hbel0⟩
  case round =>
    clear htb hbel0
    obtain ⟨i, hi, rfl, hown, htb, hbel⟩ := hrel
    by_cases hend : i = 4 * n
    · have hlt : ¬ (i : Int) < 4 * (n : Int) := by omega
      have hown2 : IntsAt wr w.heap.size u6 (wordsL T key n n) := by rw [HKW.out, ← hend]; exact hown
      clear hown
      clear hend
      go_wp2
      generalize wr = W1 at *
      have hp1 : (n - 1) / n = 0 := Nat.div_eq_of_lt (by omega)
      have hp1' : pow2 ((n - 1) / n) = 1 := by rw [hp1]; rfl
      have HP1 := Lib.hid hp1'
      have HTB2 := Lib.hid htb
      clear hp1 hp1' hlt HKW
      go_loopw [6, 8, 9] (fun s6 s8 s9 wr => ∃ i : Nat, n ≤ i ∧ i ≤ 4 * (n + 7) ∧ s9 = .int .i64 i ∧ s8 = .int .i64 (pow2 ((i - 1) / n) : Nat) ∧ IntsAt wr w.heap.size s6 (wordsL T key n i) ∧ NumsAt wr w.heap.size 77 .i64 T ∧ Below w.heap.size w wr) (fun _ _ s _ => 4 * (n + 7) - (intOf s).toNat)
      case atStart => exact ⟨n, Nat.le_refl _, by omega, rfl, by rw [HP1.out]; rfl, hown2, HTB2.out, hbel⟩
      case round =>
        clear hown2 htb hbel HTB2 HP1 hi W1
        obtain ⟨i, hin, hi, rfl, rfl, hown, htb, hbel⟩ := hrel
        by_cases hend : i = 4 * (n + 7)
        · have hlt : ¬ (i : Int) < 4 * ((n : Int) + 7) := by omega
          have HE := Lib.hid hend
          clear hend
          go_wp2
          go_ret
          exact ⟨_, rfl, by rw [← HE.out]; exact hown, hbel⟩
        · have hlt : (i : Int) < 4 * ((n : Int) + 7) := by omega
          obtain ⟨g, cap, hv, hg1, hg2, hcap, hcapm, hcell⟩ := hown.view (by rw [wordsL_length]; omega)
          rw [wordsL_length] at hv
          subst hv
          rw [wordsL_length] at hcap hcell
          have HCELL := Lib.hid hcell
          have HBY := Lib.hid (wordsL_bytes HTB.out key n i)
          have hx0 := hcell (4 * i - 4) (by omega)
          have hx1 := hcell (4 * i - 3) (by omega)
          have hx2 := hcell (4 * i - 2) (by omega)
          have hx3 := hcell (4 * i - 1) (by omega)
          have hrow : rowOf (wordsL T key n i) (i - 1) = [(wordsL T key n i).getD (4 * i - 4) 0, (wordsL T key n i).getD (4 * i - 3) 0, (wordsL T key n i).getD (4 * i - 2) 0, (wordsL T key n i).getD (4 * i - 1) 0] := by
            unfold rowOf
            rw [show (i - 1) * 4 = 4 * i - 4 by omega, show 4 * i - 4 + 1 = 4 * i - 3 by omega, show 4 * i - 4 + 2 = 4 * i - 2 by omega, show 4 * i - 4 + 3 = 4 * i - 1 by omega]
          have hb0 := HBY.out (4 * i - 4)
          have hb1 := HBY.out (4 * i - 3)
          have hb2 := HBY.out (4 * i - 2)
          have hb3 := HBY.out (4 * i - 1)
          generalize (wordsL T key n i).getD (4 * i - 4) 0 = x0 at *
          generalize (wordsL T key n i).getD (4 * i - 3) 0 = x1 at *
          generalize (wordsL T key n i).getD (4 * i - 2) 0 = x2 at *
          generalize (wordsL T key n i).getD (4 * i - 1) 0 = x3 at *
          have hll := wordsL_length T key n i
          have HOWN := Lib.hid hown
          have HROW := Lib.hid hrow
          have HPW := Lib.hid (pow2_lt ((i - 1) / n))
          have hi4 : (4 : Int) ≤ (i : Int) := by omega
          have hcap4 : (i : Int) * 4 ≤ (cap : Int) := by omega
          clear hcell hown hrow hend
          go_upto_region 11 with fail
          go_cut [10] from 29 to 60 (fun s10 W => ∃ bx, s10 = .pointer (some ⟨bx, 0, none⟩) ∧ g < bx ∧ w.heap.size ≤ bx ∧ NumsAt W bx 104 .i64 [x0, x1, x2, x3] ∧ NumsAt W w.heap.size 77 .i64 T ∧ IntsAt W w.heap.size (.slice (some ⟨g, 0, none⟩) (i * 4) cap) (wordsL T key n i) ∧ Below w.heap.size w W)
          case first =>
            go_region
            go_wp2
            go_meet
            refine ⟨_, rfl, hg2, hbel.size, ?_, ?_, ?_, ?_⟩
            · exact (NumsAt.new wr 104 .i64 [x0, x1, x2, x3]).drew
            · exact (htb.alloc (.cells (nums .i64 [x0, x1, x2, x3]) 104)).drew
            · exact (HOWN.out.alloc (.cells (nums .i64 [x0, x1, x2, x3]) 104)).drew
            · exact (hbel.alloc hbel.size (.cells (nums .i64 [x0, x1, x2, x3]) 104)).drew
          case rest =>
          obtain ⟨bx, rfl, hgb, hbb, hbx, htb1, hown1, hbel1⟩ := hcut
          clear HOWN HCELL htb hbel hx0 hx1 hx2 hx3 hg2
          generalize wc = W4 at *
          have HM := Lib.hid (show (i : Int) % (n : Int) = ((i % n : Nat) : Int) by simp)
          have htemp : tempW T n i [x0, x1, x2, x3] = if i % n = 0 then [T.getD x1 0 ^^^ pow2 ((i - 1) / n), T.getD x2 0, T.getD x3 0, T.getD x0 0] else if n = 8 ∧ i % n = 4 then [T.getD x0 0, T.getD x1 0, T.getD x2 0, T.getD x3 0] else [x0, x1, x2, x3] := rfl
          have HTEMP := Lib.hid htemp
          have HPS := Lib.hid (fun h => pow_step (n := n) (i := i) (by omega) hin h)
          have HPT := Lib.hid (fun h => pow_stay (n := n) (i := i) (by omega) h)
          have hml : i % n < n := Nat.mod_lt _ (by omega)
          have hm := HM.out
          clear htemp HM
          generalize i % n = m at *
          have hq0 := HTB.out x0
          have hq1 := HTB.out x1
          have hq2 := HTB.out x2
          have hq3 := HTB.out x3
          have ct0 := htb1.cellv x0 _ (by omega) rfl
          have ct1 := htb1.cellv x1 _ (by omega) rfl
          have ct2 := htb1.cellv x2 _ (by omega) rfl
          have ct3 := htb1.cellv x3 _ (by omega) rfl
          generalize T.getD x0 0 = t0 at *
          generalize T.getD x1 0 = t1 at *
          generalize T.getD x2 0 = t2 at *
          generalize T.getD x3 0 = t3 at *
          have hpw := HPW.out
          have HPG := Lib.hid (show ∀ q, q = (i - 1) / n → pow2 q = pow2 ((i - 1) / n) from fun q h => by rw [h])
          generalize pow2 ((i - 1) / n) = p at *
          have hxx := i64_xor_nat t1 p (by omega) (by omega)
          generalize hxg : t1 ^^^ p = tx at *
          have HTIM := Lib.hid fun W => Times_any p 2 W hpw (by omega)
          have HTIM' := Lib.hid (show ∀ W, Calls Try.prog 65 #[.int .i64 p, .int .i64 2] W fun e w' => e = .returned (.int .i64 ((mulB p 2 : Nat) : Int)) ∧ W = w' from HTIM.out)
          have cx0 := hbx.cellv 0 x0 (by simp) rfl
          have cx1 := hbx.cellv 1 x1 (by simp) rfl
          have cx2 := hbx.cellv 2 x2 (by simp) rfl
          have cx3 := hbx.cellv 3 x3 (by simp) rfl
          have hi0 : (x0 : Int) < 256 := by omega
          have hi1 : (x1 : Int) < 256 := by omega
          have hi2 : (x2 : Int) < 256 := by omega
          have hi3 : (x3 : Int) < 256 := by omega
          have f0 := hbx.frozen 0
          have f1 := hbx.frozen 1
          have f2 := hbx.frozen 2
          have f3 := hbx.frozen 3
          have hxl := hbx.lt
          have HX := Lib.hid hbx
          have HT1 := Lib.hid htb1
          have HO1 := Lib.hid hown1
          have hne1 : ∀ W, NumsAt W bx 104 .i64 [x0, x1, x2, x3] → W = W := fun _ _ => rfl
          clear hne1 hbx htb1 hown1 HTIM
          go_upto_if 64 with fail
          go_cut [8] from 61 to 110 (fun s8 W => s8 = .int .i64 (pow2 ((i + 1 - 1) / n) : Nat) ∧ NumsAt W bx 104 .i64 (tempW T n i [x0, x1, x2, x3]) ∧ NumsAt W w.heap.size 77 .i64 T ∧ IntsAt W w.heap.size (.slice (some ⟨g, 0, none⟩) (i * 4) cap) (wordsL T key n i) ∧ Below w.heap.size w W)
          case first =>
            by_cases hm0 : m = 0
            · have HPS2 := Lib.hid (HPS.out hm0)
              have HT4 := Lib.hid (show tempW T n i [x0, x1, x2, x3] = [tx, t2, t3, t0] by rw [HTEMP.out, if_pos hm0])
              have hb0 : ((m : Int) == 0) = true := by simp [hm0]
              clear hm0 HPT HPS HTEMP
              go_upto_region 13 with fail
              refine wp_region_still_tail 19 (by kernel_rfl) (by kernel_rfl) ?_
              simp only [List.take_succ_cons, List.take_zero, List.drop_succ_cons, List.drop_zero]
              refine wpStill_at rfl (some 65) rfl 104 _ _ rfl _ (.int .i64 ((1 : Nat) : Int)) rfl rfl _ (at4 _ bx 1 (by omega)) ?_
              simp only [Act.put, List.setIfInBounds_toArray, List.set_cons_zero, List.set_cons_succ]
              refine wpStill_load rfl (some 66) rfl 3 _ rfl _ rfl _ (ldInt _ _ _ cx1) ?_
              simp only [Act.put, List.setIfInBounds_toArray, List.set_cons_zero, List.set_cons_succ]
              refine wpStill_at rfl (some 67) rfl 77 _ _ rfl _ _ rfl rfl _ (at256 _ w.heap.size x1 (by omega)) ?_
              simp only [Act.put, List.setIfInBounds_toArray, List.set_cons_zero, List.set_cons_succ]
              refine wpStill_load rfl (some 68) rfl 3 _ rfl _ rfl _ (ldInt _ _ _ ct1) ?_
              simp only [Act.put, List.setIfInBounds_toArray, List.set_cons_zero, List.set_cons_succ]
              refine wpStill_value rfl (some 69) rfl (.int .i64 p) rfl ?_
              simp only [Act.put, List.setIfInBounds_toArray, List.set_cons_zero, List.set_cons_succ]
              refine wpStill_xor rfl (some 70) rfl _ _ _ rfl _ _ rfl rfl _ hxx ?_
              simp only [Act.put, List.setIfInBounds_toArray, List.set_cons_zero, List.set_cons_succ]
              refine wpStill_at rfl (some 71) rfl 104 _ _ rfl _ (.int .i64 ((2 : Nat) : Int)) rfl rfl _ (at4 _ bx 2 (by omega)) ?_
              simp only [Act.put, List.setIfInBounds_toArray, List.set_cons_zero, List.set_cons_succ]
              refine wpStill_load rfl (some 72) rfl 3 _ rfl _ rfl _ (ldInt _ _ _ cx2) ?_
              simp only [Act.put, List.setIfInBounds_toArray, List.set_cons_zero, List.set_cons_succ]
              refine wpStill_at rfl (some 73) rfl 77 _ _ rfl _ _ rfl rfl _ (at256 _ w.heap.size x2 (by omega)) ?_
              simp only [Act.put, List.setIfInBounds_toArray, List.set_cons_zero, List.set_cons_succ]
              refine wpStill_load rfl (some 74) rfl 3 _ rfl _ rfl _ (ldInt _ _ _ ct2) ?_
              simp only [Act.put, List.setIfInBounds_toArray, List.set_cons_zero, List.set_cons_succ]
              refine wpStill_at rfl (some 75) rfl 104 _ _ rfl _ (.int .i64 ((3 : Nat) : Int)) rfl rfl _ (at4 _ bx 3 (by omega)) ?_
              simp only [Act.put, List.setIfInBounds_toArray, List.set_cons_zero, List.set_cons_succ]
              refine wpStill_load rfl (some 76) rfl 3 _ rfl _ rfl _ (ldInt _ _ _ cx3) ?_
              simp only [Act.put, List.setIfInBounds_toArray, List.set_cons_zero, List.set_cons_succ]
              refine wpStill_at rfl (some 77) rfl 77 _ _ rfl _ _ rfl rfl _ (at256 _ w.heap.size x3 (by omega)) ?_
              simp only [Act.put, List.setIfInBounds_toArray, List.set_cons_zero, List.set_cons_succ]
              refine wpStill_load rfl (some 78) rfl 3 _ rfl _ rfl _ (ldInt _ _ _ ct3) ?_
              simp only [Act.put, List.setIfInBounds_toArray, List.set_cons_zero, List.set_cons_succ]
              refine wpStill_at rfl (some 79) rfl 104 _ _ rfl _ (.int .i64 ((0 : Nat) : Int)) rfl rfl _ (at4 _ bx 0 (by omega)) ?_
              simp only [Act.put, List.setIfInBounds_toArray, List.set_cons_zero, List.set_cons_succ]
              refine wpStill_load rfl (some 80) rfl 3 _ rfl _ rfl _ (ldInt _ _ _ cx0) ?_
              simp only [Act.put, List.setIfInBounds_toArray, List.set_cons_zero, List.set_cons_succ]
              refine wpStill_at rfl (some 81) rfl 77 _ _ rfl _ _ rfl rfl _ (at256 _ w.heap.size x0 (by omega)) ?_
              simp only [Act.put, List.setIfInBounds_toArray, List.set_cons_zero, List.set_cons_succ]
              refine wpStill_load rfl (some 82) rfl 3 _ rfl _ rfl _ (ldInt _ _ _ ct0) ?_
              simp only [Act.put, List.setIfInBounds_toArray, List.set_cons_zero, List.set_cons_succ]
              refine wpStill_build4 rfl (some 83) rfl _ _ _ _ rfl tx t2 t3 t0 rfl rfl rfl rfl ?_
              simp only [Act.put, List.setIfInBounds_toArray, List.set_cons_zero, List.set_cons_succ]
              refine wpStill_nil ?_
              change wpList _ _ _ _ _ W4.drew
              refine wpList_store_rowTo rfl 104 _ _ rfl rfl bx (nums .i64 [tx, t2, t3, t0]) rfl rfl 104 (nums .i64 [x0, x1, x2, x3]) HX.out (by kernel_rfl) rfl (nums_oneCell _ _) ?_
              go_wp2_with fail
              refine Calls.mono (HTIM'.out _) ?_
              rintro _ _ ⟨rfl, rfl⟩
              go_wp2
              go_meet
              refine ⟨by rw [HPS2.out], ?_, ?_, ?_, ?_⟩
              · rw [HT4.out]
                exact (HX.out.drew).setRow _
              · exact HT1.out.drew.setRow_other bx _ (by omega)
              · exact HO1.out.drew.setRow HX.out.drew (by decide) _
              · exact Below.setRow hbel1.drew bx hbb _
            · have HPT2 := Lib.hid (HPT.out hm0)
              have hb0 : ((m : Int) == 0) = false := by simp [hm0]
              by_cases h4 : n = 8 ∧ m = 4
              · have h8i : ((n : Int) == 8) = true := by simp [h4.1]
                have h4i : ((m : Int) == 4) = true := by simp [h4.2]
                have HT2 := Lib.hid (show tempW T n i [x0, x1, x2, x3] = [t0, t1, t2, t3] by rw [HTEMP.out, if_neg hm0, if_pos h4])
                clear h4 hm0 HPT HPS HTEMP
                go_upto_region 16 with fail
                refine wp_region_still_tail 17 (by kernel_rfl) (by kernel_rfl) ?_
                simp only [List.take_succ_cons, List.take_zero, List.drop_succ_cons, List.drop_zero]
                refine wpStill_at rfl (some 94) rfl 104 _ _ rfl _ (.int .i64 ((0 : Nat) : Int)) rfl rfl _ (at4 _ bx 0 (by omega)) ?_
                simp only [Act.put, List.setIfInBounds_toArray, List.set_cons_zero, List.set_cons_succ]
                refine wpStill_load rfl (some 95) rfl 3 _ rfl _ rfl _ (ldInt _ _ _ cx0) ?_
                simp only [Act.put, List.setIfInBounds_toArray, List.set_cons_zero, List.set_cons_succ]
                refine wpStill_at rfl (some 96) rfl 77 _ _ rfl _ _ rfl rfl _ (at256 _ w.heap.size x0 (by omega)) ?_
                simp only [Act.put, List.setIfInBounds_toArray, List.set_cons_zero, List.set_cons_succ]
                refine wpStill_load rfl (some 97) rfl 3 _ rfl _ rfl _ (ldInt _ _ _ ct0) ?_
                simp only [Act.put, List.setIfInBounds_toArray, List.set_cons_zero, List.set_cons_succ]
                refine wpStill_at rfl (some 98) rfl 104 _ _ rfl _ (.int .i64 ((1 : Nat) : Int)) rfl rfl _ (at4 _ bx 1 (by omega)) ?_
                simp only [Act.put, List.setIfInBounds_toArray, List.set_cons_zero, List.set_cons_succ]
                refine wpStill_load rfl (some 99) rfl 3 _ rfl _ rfl _ (ldInt _ _ _ cx1) ?_
                simp only [Act.put, List.setIfInBounds_toArray, List.set_cons_zero, List.set_cons_succ]
                refine wpStill_at rfl (some 100) rfl 77 _ _ rfl _ _ rfl rfl _ (at256 _ w.heap.size x1 (by omega)) ?_
                simp only [Act.put, List.setIfInBounds_toArray, List.set_cons_zero, List.set_cons_succ]
                refine wpStill_load rfl (some 101) rfl 3 _ rfl _ rfl _ (ldInt _ _ _ ct1) ?_
                simp only [Act.put, List.setIfInBounds_toArray, List.set_cons_zero, List.set_cons_succ]
                refine wpStill_at rfl (some 102) rfl 104 _ _ rfl _ (.int .i64 ((2 : Nat) : Int)) rfl rfl _ (at4 _ bx 2 (by omega)) ?_
                simp only [Act.put, List.setIfInBounds_toArray, List.set_cons_zero, List.set_cons_succ]
                refine wpStill_load rfl (some 103) rfl 3 _ rfl _ rfl _ (ldInt _ _ _ cx2) ?_
                simp only [Act.put, List.setIfInBounds_toArray, List.set_cons_zero, List.set_cons_succ]
                refine wpStill_at rfl (some 104) rfl 77 _ _ rfl _ _ rfl rfl _ (at256 _ w.heap.size x2 (by omega)) ?_
                simp only [Act.put, List.setIfInBounds_toArray, List.set_cons_zero, List.set_cons_succ]
                refine wpStill_load rfl (some 105) rfl 3 _ rfl _ rfl _ (ldInt _ _ _ ct2) ?_
                simp only [Act.put, List.setIfInBounds_toArray, List.set_cons_zero, List.set_cons_succ]
                refine wpStill_at rfl (some 106) rfl 104 _ _ rfl _ (.int .i64 ((3 : Nat) : Int)) rfl rfl _ (at4 _ bx 3 (by omega)) ?_
                simp only [Act.put, List.setIfInBounds_toArray, List.set_cons_zero, List.set_cons_succ]
                refine wpStill_load rfl (some 107) rfl 3 _ rfl _ rfl _ (ldInt _ _ _ cx3) ?_
                simp only [Act.put, List.setIfInBounds_toArray, List.set_cons_zero, List.set_cons_succ]
                refine wpStill_at rfl (some 108) rfl 77 _ _ rfl _ _ rfl rfl _ (at256 _ w.heap.size x3 (by omega)) ?_
                simp only [Act.put, List.setIfInBounds_toArray, List.set_cons_zero, List.set_cons_succ]
                refine wpStill_load rfl (some 109) rfl 3 _ rfl _ rfl _ (ldInt _ _ _ ct3) ?_
                simp only [Act.put, List.setIfInBounds_toArray, List.set_cons_zero, List.set_cons_succ]
                refine wpStill_build4 rfl (some 110) rfl _ _ _ _ rfl t0 t1 t2 t3 rfl rfl rfl rfl ?_
                simp only [Act.put, List.setIfInBounds_toArray, List.set_cons_zero, List.set_cons_succ]
                refine wpStill_nil ?_
                change wpList _ _ _ _ _ W4.drew
                refine wpList_store_rowTo rfl 104 _ _ rfl rfl bx (nums .i64 [t0, t1, t2, t3]) rfl rfl 104 (nums .i64 [x0, x1, x2, x3]) HX.out (by kernel_rfl) rfl (nums_oneCell _ _) ?_
                go_wp2
                go_meet
                refine ⟨by rw [HPG.out _ HPT2.out], ?_, ?_, ?_, ?_⟩
                · rw [HT2.out]
                  exact (HX.out.drew).setRow _
                · exact HT1.out.drew.setRow_other bx _ (by omega)
                · exact HO1.out.drew.setRow HX.out.drew (by decide) _
                · exact Below.setRow hbel1.drew bx hbb _
              · have HT3 := Lib.hid (show tempW T n i [x0, x1, x2, x3] = [x0, x1, x2, x3] by rw [HTEMP.out, if_neg hm0, if_neg h4])
                rcases HN.out with h4n | h8n
                · have h8i : ((n : Int) == 8) = false := by simp; omega
                  clear h4 h4n hm0 HPT HPS HTEMP
                  go_wp2
                  go_meet
                  exact ⟨by rw [HPG.out _ HPT2.out], by rw [HT3.out]; exact HX.out, HT1.out, HO1.out, hbel1⟩
                · have h8i : ((n : Int) == 8) = true := by simp [h8n]
                  have h4i : ((m : Int) == 4) = false := by simp; omega
                  clear h4 h8n hm0 HPT HPS HTEMP
                  go_wp2
                  go_meet
                  exact ⟨by rw [HPG.out _ HPT2.out], by rw [HT3.out]; exact HX.out, HT1.out, HO1.out, hbel1⟩
          case rest =>
            clear HTIM' HX HT1 HO1 hbel1 ct0 ct1 ct2 ct3 cx0 cx1 cx2 cx3 f0 f1 f2 f3 hxl HPS HPT HTEMP hm hxx hxg
            obtain ⟨rfl, hbx, htb, hown, hbel⟩ := hcut
            have HR := Lib.hid (show nextW T key n i (wordsL T key n i) = tab (addF (tempW T n i [x0, x1, x2, x3]) (rowOf (wordsL T key n i) (i - n))) 4 by rw [nextW, if_neg (by omega), HROW.out])
            have HTW := Lib.hid (tempW_bytes HTB.out n i (bytes_four hb0 hb1 hb2 hb3))
            have htwl : (tempW T n i [x0, x1, x2, x3]).length = 4 := by unfold tempW; split; · rfl
                                                                        · split <;> rfl
            have HNX := Lib.hid (show wordsL T key n (i + 1) = wordsL T key n i ++ nextW T key n i (wordsL T key n i) from rfl)
            have HCL := Lib.hid (fun W h => IntsAt.cells (w := W) (base := w.heap.size) (g := g) (n := i * 4) (cap := cap) (l := wordsL T key n i) h (by rw [wordsL_length]))
            generalize hL : wordsL T key n i = L at *
            generalize tempW T n i [x0, x1, x2, x3] = tw at *
            obtain ⟨d, hd⟩ : ∃ d, d = i - n := ⟨_, rfl⟩
            rw [← hd] at HR
            have hdi : (i : Int) - (n : Int) = (d : Int) := by omega
            have hdl : 4 * d + 4 ≤ i * 4 := by omega
            have hd60 : d ≤ 60 := by omega
            have HD := Lib.hid hd
            clear hd hL
            go_upto_region 17 with fail
            have HLT := Lib.hid (show i + 1 ≤ 4 * (n + 7) by omega)
            clear hi0 hi1 hi2 hi3 hq0 hq1 hq2 hq3 hpw HPW hb0 hb1 hb2 hb3 hcap hcapm hcap4 hlt
            go_wp2
            go_loopw [6, 11] (fun s6 s11 wr => ∃ (k : Nat) (l : List Nat), k ≤ 4 ∧ s11 = .int .i64 k ∧ l = L ++ (tab (addF tw (rowOf L d)) 4).take k ∧ IntsAt wr w.heap.size s6 l ∧ NumsAt wr w.heap.size 77 .i64 T ∧ NumsAt wr bx 104 .i64 tw ∧ Below w.heap.size w wr) (fun _ s _ => 4 - (intOf s).toNat)
            case atStart => exact ⟨0, L, by omega, rfl, by simp, hown, htb, hbx, hbel⟩
            case round =>
              clear hown htb hbx hbel
              obtain ⟨k, l, hk, rfl, hl, hown, htb, hbx, hbel⟩ := hrel
              have hlen : l.length = i * 4 + k := by rw [hl, List.length_append, hll, List.length_take, tab_length]; omega
              by_cases hend : k = 4
              · have hlt : ¬ (k : Int) < 4 := by omega
                have hl4 : l = wordsL T key n (i + 1) := by
                  rw [hl, HNX.out, HR.out, hend, List.take_of_length_le (by rw [tab_length]; omega)]
                rw [hl4] at hown
                clear hl hl4 hend hlen
                go_wp2
                go_round
                case rel => exact ⟨i + 1, by omega, HLT.out, by go_num, rfl, hown, htb, hbel⟩
                case measure =>
                  have := HLT.out
                  simp [intOf]; omega
              · have hlt : (k : Int) < 4 := by omega
                have hlk : k < 4 := by omega
                obtain ⟨g2, cap2, hv, hg3, hg4, hcap, hcapm, hcell⟩ := hown.view (by omega)
                rw [hlen] at hv hcap
                subst hv
                have hlL : l.getD (4 * d + k) 0 = L.getD (4 * d + k) 0 := by
                  rw [hl]
                  simp only [List.getD]
                  rw [List.getElem?_append_left (by omega)]
                have hcw := hcell (4 * d + k) (by omega)
                rw [hlL] at hcw
                have hcx := hbx.cell k (by omega)
                have hy := HTW.out k
                have hz := HBY.out (4 * d + k)
                have hadd : addF tw (rowOf L d) k = L.getD (4 * d + k) 0 ^^^ tw.getD k 0 := by
                  unfold addF
                  rw [rowOf_getD _ _ _ hlk, Nat.xor_comm, Nat.mul_comm d]
                have hl1 : l ++ [L.getD (4 * d + k) 0 ^^^ tw.getD k 0] = L ++ (tab (addF tw (rowOf L d)) 4).take (k + 1) := by
                  rw [hl, List.append_assoc, List.take_add_one, ← hadd]
                  congr 2
                  simp [tab, hlk]
                have hxx := i64_xor_nat (L.getD (4 * d + k) 0) (tw.getD k 0) (by omega) (by omega)
                generalize L.getD (4 * d + k) 0 ^^^ tw.getD k 0 = e at *
                generalize L.getD (4 * d + k) 0 = z at *
                generalize tw.getD k 0 = y at *
                have HL1 := Lib.hid hl1
                have hin1 : 4 * (d : Int) + (k : Int) < (i : Int) * 4 + (k : Int) := by omega
                have hin2 : 4 * d + k < i * 4 + k := by omega
                have hw1 : IntKind.i64.wrap (d : Int) = (d : Int) := by simp [IntKind.wrap, IntKind.bits, IntKind.signed]; omega
                have hw2 : IntKind.i64.wrap (4 * (d : Int)) = 4 * (d : Int) := by simp [IntKind.wrap, IntKind.bits, IntKind.signed]; omega
                have hw3 : IntKind.i64.wrap (4 * (d : Int) + (k : Int)) = 4 * (d : Int) + (k : Int) := by simp [IntKind.wrap, IntKind.bits, IntKind.signed]; omega
                have hw4 : (4 * (d : Int) + (k : Int)).toNat = 4 * d + k := by omega
                have hw5 : 0 ≤ 4 * (d : Int) + (k : Int) := by omega
                have hbl := hbx.lt
                have hHR := hbel.size
                have hown1 := (hown.alloc (.cells #[.int .i64 (e : Int)] 3)).drew
                have hbx1 := (hbx.alloc (.cells #[.int .i64 (e : Int)] 3)).drew
                have htb1 := (htb.alloc (.cells #[.int .i64 (e : Int)] 3)).drew
                have hbel1 : Below w.heap.size w (wr.alloc (.cells #[.int .i64 (e : Int)] 3)).drew := (hbel.alloc hbel.size _).drew
                have HOW := Lib.hid hown1
                have HBX := Lib.hid hbx1
                have HTB1 := Lib.hid htb1
                have HBEL := Lib.hid hbel1
                have HLEN := Lib.hid hlen
                have hll2 : l.length ≤ 1000 := by omega
                clear hl hcell hlL hadd hl1 hown hbx htb hown1 hbx1 htb1 hbel1 hlen
                go_wp2
                go_region_law (refine step_int rfl (.tmp 115) (.tmp 129) rfl (some 130) rfl w.heap.size (.slice (some ⟨g2, 0, none⟩) (i * 4 + k) cap2) l e rfl HOW.out wr.heap.size rfl (by show (wr.alloc _).cell? _ = _; rw [World.cell?_alloc_new]; rfl) hll2 HBEL.out.size ?_; intro g3 cap3 w2 ho2 hg2 hl2; have HO2 := Lib.hid ho2; have HG2 := Lib.hid hg2; clear ho2 hg2)
                all_goals
                  go_wp2
                  go_round
                  case rel =>
                    repeat apply Exists.intro
                    refine ⟨⟨k + 1, l ++ [e], by omega, by go_num, HL1.out, ?_, ?_, ?_, ?_⟩, rfl⟩
                    · exact HO2.out
                    · exact NumsAt.grown HTB1.out HG2.out (HOW.out.ne HTB1.out (by decide))
                    · exact NumsAt.grown HBX.out HG2.out (HOW.out.ne HBX.out (by decide))
                    · exact below_grown HBEL.out HBEL.out.size HG2.out (fun k hk => (World.ownsRow.lt HOW.out k hk).1)
                  case measure => simp [intOf]; omega
    · have hlt : (i : Int) < 4 * (n : Int) := by omega
      have hlt2 : i < key.length := by omega
      go_wp2_with (at_builtin; refine RowKit.Hid.out ?_)
      refine Lib.hid ?_
      have hy : wrap64 ((key[i].toNat : Nat) : Int) = ((byteF key i : Nat) : Int) := by
        have := key[i].toNat_lt
        simp [byteF, List.getD, hlt2, wrap64]
        omega
      rw [hy]
      have hown1 := hown.alloc (.cells #[.int .i64 ((byteF key i : Nat) : Int)] 3)
      have htb1 := htb.alloc (.cells #[.int .i64 ((byteF key i : Nat) : Int)] 3)
      have hne := hown1.ne htb1 (by decide)
      have hbel1 : Below w.heap.size w (wr.alloc (.cells #[.int .i64 ((byteF key i : Nat) : Int)] 3)) := hbel.alloc hbel.size _
      refine app_int rfl (.tmp 21) (.tmp 26) rfl (some 27) rfl w.heap.size u6 (tab (byteF key) i) (byteF key i) rfl hown1 wr.heap.size rfl (by rw [World.cell?_alloc_new]; rfl) (by rw [tab_length]; omega) hbel1.size ?_
      intro v' w' hown2 hg
      have HO := Lib.hid hown2
      have HT := Lib.hid (NumsAt.grown htb1 hg hne)
      have HB := Lib.hid (below_grown hbel1 hbel1.size hg (fun k hk => (World.ownsRow.lt hown1 k hk).1))
      clear hown2 hg hne htb1 hown1 hbel1 hown htb hbel
      go_wp2
      go_round
      case rel => exact ⟨i + 1, by omega, by go_num, by rw [tab_succ]; exact HO.out, HT.out, HB.out⟩
      case measure => simp [intOf]; omega
end Go.Proofs.Ytnnoimikoddbcaa.Ref07
