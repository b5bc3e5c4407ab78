/-
  AES: the walk of expand, a key of 32 bytes.
  Conditions: bytes.
-/
import Derived.Test.YtlbpodddokhmaaaGreatAesM
namespace Go.Proofs.YtlbpodddokhmaaaGreat.Aes
open Go.ChangeShapes Go.WideShapes Go.ChangeAt Go.RowKit Go.Deep Go.Great
set_option maxHeartbeats 3200000 in
set_option maxRecDepth 100000 in
theorem expand8 (T Bk : List Nat) (key : List UInt8) (cb : Nat) (w : World) (hkey : key.length = 32) (hT : Bytes T) (hTl : T.length = 256) (_hBl : Bk.length = 256)
    (hc : w.heap[cb]? = some (.cells (ciph 14 (.slice none 0 0) T Bk) 143 (0, 0))) : Calls Tryz.prog 103 #[.pointer (some ⟨cb, 0, none⟩), .string (B key)] w fun e w' => e = .returned (.tuple #[]) ∧ ∃ v, w'.heap[cb]? = some (.cells (ciph 14 v T Bk) 143 (0, 0)) ∧ w'.ownsRow w.heap.size 149 16 v (15) (vals (wordsL T key 8 (60))) ∧ Below cb w w' := by
  have hr : w.cell? ⟨cb, 0, none⟩ = some (.int .i64 14) := by rw [cell_of_row w cb 0 _ _ _ hc]; exact ciph_0 _ _ _ _
  have hlt : cb < w.heap.size := World.block_lt_of_cell? w ⟨cb, 0, none⟩ hr
  have HT : TabAt w cb 2 T := ⟨hlt, fun x hx => by rw [cell_of_row w cb _ _ _ _ hc]; exact ciph_sub _ _ _ _ (by omega)⟩
  have HTB := Lib.hid hT
  have HC := Lib.hid hc
  clear hT hc
  go_enter Tryz.func103, Tryz.ntmps103
  go_wp2
  clear hr
  go_loopw [5, 6, 20] (fun s5 s6 s20 wr => ∃ i : Nat, i ≤ 60 ∧ s20 = .int .i64 i ∧ s6 = .int .u8 (pow2 ((i - 1) / 8)) ∧ wr.ownsRow w.heap.size 147 4 s5 i (vals (wordsL T key 8 i)) ∧ Below w.heap.size w wr) (fun _ _ s _ => 60 - (intOf s).toNat)
  case atStart => exact ⟨0, by omega, rfl, by rw [show (0 - 1) / 8 = 0 from Nat.div_eq_of_lt (by omega)]; rfl, World.ownsRow_nil _ _ _ _, Below.refl _ _⟩
  case round =>
    obtain ⟨i, hi, rfl, rfl, hown, hbel⟩ := hrel
    have HOWN := Lib.hid hown
    have HBEL := Lib.hid hbel
    by_cases hend : i = 60
    · have hi2 : 60 ≤ i := by omega
      have hi3 : 60 ≤ (i : Int) := by omega
      clear hend
      have hg : ∃ g cap, u5 = .slice (some ⟨g, 0, none⟩) i cap ∧ w.heap.size ≤ g ∧ g < wr.heap.size ∧ i ≤ cap ∧ (∀ j, j < i * 4 → wr.cell? ⟨g, j, none⟩ = some (.int .u8 (((wordsL T key 8 i).getD j 0 : Nat) : Int))) := by
        rcases hown.2 with ⟨_, h0⟩ | ⟨g, cap, cur, h1, h2, h3, h4, _, _, _⟩
        · omega
        · subst h1
          refine ⟨g, cap, rfl, h2, ?_, h4, fun j hj => ?_⟩
          · exact (hown.lt g rfl).2
          · rw [hown.cellAt j hj]
            simp [vals, List.getD, wordsL_length, hj]
      obtain ⟨g, cap, rfl, hg1, hg2, hcap, hcell⟩ := hg
      have hcb0 : wr.heap[cb]? = some (.cells (ciph 14 (.slice none 0 0) T Bk) 143 (0, 0)) := by rw [hbel.block cb hlt]; exact HC.out
      have HCB0 := Lib.hid hcb0
      have HALL0 := Lib.hid hcell
      clear hown hbel hcell hcb0
      go_wp2
      generalize wr = W1 at *
      go_loopw [10] (fun s10 wr2 => ∃ (j : Nat) (v : Value), j ≤ 15 ∧ s10 = .int .i64 (4 * (j : Int)) ∧ wr2.heap[cb]? = some (.cells (ciph 14 v T Bk) 143 (0, 0)) ∧ wr2.ownsRow W1.heap.size 149 16 v j (vals ((wordsL T key 8 i).take (j * 16))) ∧ (∀ x, x < i * 4 → wr2.cell? ⟨g, x, none⟩ = some (.int .u8 (((wordsL T key 8 i).getD x 0 : Nat) : Int))) ∧ Below cb w wr2 ∧ W1.heap.size ≤ wr2.heap.size) (fun s _ => 60 - (intOf s).toNat)
      case atStart => exact ⟨0, .slice none 0 0, by omega, rfl, HCB0.out, World.ownsRow_nil _ _ _ _, HALL0.out, HBEL.out.mono (by omega), Nat.le_refl _⟩
      case round =>
        obtain ⟨j, v, hj, rfl, hcb, hown, hall, hbel, hsz⟩ := hrel
        have HCB := Lib.hid hcb
        have HOWN2 := Lib.hid hown
        have HALL := Lib.hid hall
        have HBEL2 := Lib.hid hbel
        by_cases hjn : j = 15
        · subst hjn
          clear hcb hown hall hbel
          go_wp2
          refine bodyPost_end0 Tryz.results103 rfl ⟨rfl, v, HCB.out, ?_, HBEL2.out⟩
          have hii : i = 60 := by omega
          rw [← hii]
          have e : (wordsL T key 8 i).take ((15) * 16) = wordsL T key 8 i := List.take_of_length_le (by rw [wordsL_length]; omega)
          rw [← e]
          exact owns_mono HBEL.out.size HOWN2.out
        · have hlj : (4 : Int) * (j : Int) < (i : Int) := by omega
          have hcw : wr.cell? ⟨cb, 1, none⟩ = some v := by rw [cell_of_row wr cb 1 _ _ _ hcb]; exact ciph_1 _ _ _ _
          have hcapI : 60 ≤ (cap : Int) := by omega
          have hf0 := HALL.out (4 * j * 4) (by omega)
          have hf1 := HALL.out (4 * j * 4 + 1) (by omega)
          have hf2 := HALL.out (4 * j * 4 + 2) (by omega)
          have hf3 := HALL.out (4 * j * 4 + 3) (by omega)
          have hf4 := HALL.out (4 * j * 4 + 4) (by omega)
          have hf5 := HALL.out (4 * j * 4 + 5) (by omega)
          have hf6 := HALL.out (4 * j * 4 + 6) (by omega)
          have hf7 := HALL.out (4 * j * 4 + 7) (by omega)
          have hf8 := HALL.out (4 * j * 4 + 8) (by omega)
          have hf9 := HALL.out (4 * j * 4 + 9) (by omega)
          have hf10 := HALL.out (4 * j * 4 + 10) (by omega)
          have hf11 := HALL.out (4 * j * 4 + 11) (by omega)
          have hf12 := HALL.out (4 * j * 4 + 12) (by omega)
          have hf13 := HALL.out (4 * j * 4 + 13) (by omega)
          have hf14 := HALL.out (4 * j * 4 + 14) (by omega)
          have hf15 := HALL.out (4 * j * 4 + 15) (by omega)
          clear hcb hown hall hbel
          have hXL := take16 (wordsL T key 8 i) (4 * j * 4) (by rw [wordsL_length]; omega)
          rw [show 4 * j * 4 + 16 = (j + 1) * 16 by omega, show (wordsL T key 8 i).take (4 * j * 4) = (wordsL T key 8 i).take (j * 16) by rw [show 4 * j * 4 = j * 16 by omega]] at hXL
          generalize (wordsL T key 8 i).getD (4 * j * 4) 0 = x0 at *
          generalize (wordsL T key 8 i).getD (4 * j * 4 + 1) 0 = x1 at *
          generalize (wordsL T key 8 i).getD (4 * j * 4 + 2) 0 = x2 at *
          generalize (wordsL T key 8 i).getD (4 * j * 4 + 3) 0 = x3 at *
          generalize (wordsL T key 8 i).getD (4 * j * 4 + 4) 0 = x4 at *
          generalize (wordsL T key 8 i).getD (4 * j * 4 + 5) 0 = x5 at *
          generalize (wordsL T key 8 i).getD (4 * j * 4 + 6) 0 = x6 at *
          generalize (wordsL T key 8 i).getD (4 * j * 4 + 7) 0 = x7 at *
          generalize (wordsL T key 8 i).getD (4 * j * 4 + 8) 0 = x8 at *
          generalize (wordsL T key 8 i).getD (4 * j * 4 + 9) 0 = x9 at *
          generalize (wordsL T key 8 i).getD (4 * j * 4 + 10) 0 = x10 at *
          generalize (wordsL T key 8 i).getD (4 * j * 4 + 11) 0 = x11 at *
          generalize (wordsL T key 8 i).getD (4 * j * 4 + 12) 0 = x12 at *
          generalize (wordsL T key 8 i).getD (4 * j * 4 + 13) 0 = x13 at *
          generalize (wordsL T key 8 i).getD (4 * j * 4 + 14) 0 = x14 at *
          generalize (wordsL T key 8 i).getD (4 * j * 4 + 15) 0 = x15 at *
          have hw : IntKind.i64.wrap (4 * (j : Int) + 4) = 4 * (j : Int) + 4 := by simp [IntKind.wrap, IntKind.bits, IntKind.signed]; omega
          have hw1 : 4 * (j : Int) + 4 ≤ (cap : Int) := by omega
          have hw2 : ¬ cap = 4 * j := by omega
          have hw3 : (4 * (j : Int)).toNat = 4 * j := by omega
          have hw4 : (4 * (j : Int) + 4).toNat = 4 * j + 4 := by omega
          have hw5 : (0 : Int) ≤ 4 * (j : Int) := by omega
          have hw6 : (0 : Int) ≤ 4 * (j : Int) + 4 := by omega
          have hw7 : 4 * (j : Int) ≤ 4 * (j : Int) + 4 := by omega
          have harr := fun W => run_arrayAt (P := Tryz.prog) (w := W) 149 147 4 (some ⟨g, 4 * j * 4, none⟩) 4 (cap - 4 * j) Tryz.underlying149 (Nat.le_refl _)
          go_wp2
          have HXL := Lib.hid hXL
          clear hXL
          have hownW : ((wr.alloc (.cells (nums .u8 [x0, x1, x2, x3, x4, x5, x6, x7, x8, x9, x10, x11, x12, x13, x14, x15]) 149)).drew).ownsRow W1.heap.size 149 16 v j (vals ((wordsL T key 8 i).take (j * 16))) := HOWN2.out.alloc _
          have HOWNW := Lib.hid hownW
          clear hownW
          have hnb : ∀ k, v.ownBlock = some k → W1.heap.size ≤ k := fun k hk => (HOWN2.out.lt k hk).1
          have HNB := Lib.hid hnb
          clear hnb
          have hcbw : cb < wr.heap.size := by omega
          have hwW1 : w.heap.size ≤ W1.heap.size := HBEL.out.size
          go_region_law (refine step_state rfl (.tmp 111) (.tmp 119) rfl (some 120) rfl W1.heap.size v j ((wordsL T key 8 i).take (j * 16)) [x0, x1, x2, x3, x4, x5, x6, x7, x8, x9, x10, x11, x12, x13, x14, x15] rfl HOWNW.out wr.heap.size rfl rfl 149 (heap_alloc_last wr _) (by omega) (Nat.le_trans hsz (by simp)) ?_; intro g2 cap2 w2 ho2 hg2 hl2; have hcb2 : w2.heap[cb]? = some (.cells (ciph 14 v T Bk) 143 (0, 0)) := (by rw [hg2.block cb (by simp; omega) (fun e => by have := HNB.out cb e.symm; omega)]; exact heap_under HCB.out); have hcl2 : w2.cell? ⟨cb, 1, none⟩ = some v := (by rw [cell_of_row w2 cb 1 _ _ _ hcb2]; exact ciph_1 _ _ _ _); have hfz2 : w2.frozen? ⟨cb, 1, none⟩ = false := (by simp [World.frozen?, hcb2]); have HCB2 := Lib.hid hcb2; have HO2 := Lib.hid ho2; have HG2 := Lib.hid hg2; clear hcb2 ho2 hg2)
          all_goals
            go_wp2
            go_round
            case rel =>
              have hW := ((HBEL2.out.alloc (by omega) (.cells (nums .u8 [x0, x1, x2, x3, x4, x5, x6, x7, x8, x9, x10, x11, x12, x13, x14, x15]) 149)).drew)
              refine ⟨j + 1, .slice (some ⟨g2, 0, none⟩) (j + 1) cap2, by omega, by simp; omega, setCell_words _ _ _ _ _ _ _ _ HCB2.out, ?_, fun x hx => ?_, ?_, ?_⟩
              · rw [HXL.out]
                exact owns_setCell HO2.out cb 1 _ (by omega)
              · have e1 : (w2.setCell ⟨cb, 1, none⟩ (.slice (some ⟨g2, 0, none⟩) (j + 1) cap2)).cell? ⟨g, x, none⟩ = w2.cell? ⟨g, x, none⟩ := World.cell?_of_block (setCell_block _ _ _ _ _ (by show ¬ cb = g; omega))
                rw [e1, cell_grown HG2.out (a := ⟨g, x, none⟩) (by simp; omega) (fun e => by have := HNB.out g e.symm; omega), cell_of_under (by omega)]
                exact HALL.out x hx
              · exact (below_grown hW (by simp; omega) HG2.out (fun k hk => by have := HNB.out k hk; omega)).setCell (Nat.le_refl _) _
              · have := HG2.out.size
                simp at this ⊢
                omega
            case measure => simp [intOf]; omega
    · have hlt2 : (i : Int) < 60 := by omega
      by_cases hin : i < 8
      · have hin' : (i : Int) < (8 : Int) := by omega
        clear hown hbel
        have hk1 : (4 : Int) * (i : Int) + 4 ≤ 32 := by omega
        have hk2 : 4 * i + 4 ≤ 32 := by omega
        have hXl : ((key.drop (4 * i)).take 4).length = 4 := by simp; omega
        obtain ⟨cap, w1, hconv, hcap, hb1, hsz, hcell, -⟩ := bytes_conv (P := Tryz.prog) wr 9 73 5 ((key.drop (4 * i)).take 4) Tryz.underlying9 Tryz.underlying73 Tryz.underlying5
        have hX : ∀ j, j < 4 → w1.cell? ⟨wr.heap.size, j, none⟩ = some (.int .u8 ((byteF key (i * 4 + j) : Nat) : Int)) := fun j hj => by
          rw [hcell j (by omega)]
          simp [byteF, List.getD, show i * 4 + j < key.length by omega, Nat.mul_comm]
        have hx0 := hX 0 (by omega)
        have hx1 := hX 1 (by omega)
        have hx2 := hX 2 (by omega)
        have hx3 := hX 3 (by omega)
        rw [hXl] at hconv hcap
        have HB1 := Lib.hid hb1
        clear hcell hb1 hX hXl
        have harr := run_arrayAt (P := Tryz.prog) (w := w1) 147 5 4 (some ⟨wr.heap.size, 0, none⟩) 4 cap Tryz.underlying147 (Nat.le_refl _)
        have hcap' : (4 : Int) ≤ (cap : Int) := by omega
        go_wp2_with (at_builtin; refine RowKit.Hid.out ?_)
        refine Lib.hid ?_
        rw [nums4]
        have hbW : Below w.heap.size w (w1.alloc (.cells (nums .u8 [byteF key (i * 4), byteF key (i * 4 + 1), byteF key (i * 4 + 2), byteF key (i * 4 + 3)]) 147)) := by
          have := HBEL.out
          have := HB1.out
          have hs1 := HBEL.out.size
          exact (HBEL.out.trans (HB1.out.mono hs1)).alloc (by omega) _
        have howW := HOWN.out.kept (grown_of_below (HB1.out.alloc (by omega) (.cells (nums .u8 [byteF key (i * 4), byteF key (i * 4 + 1), byteF key (i * 4 + 2), byteF key (i * 4 + 3)]) 147)) none) (by cases u5 <;> simp [Value.ownBlock]; split <;> simp)
        refine app_word rfl (.tmp 26) (.tmp 37) rfl (some 38) rfl w.heap.size u5 i (wordsL T key 8 i) (keyW key i) rfl howW (wr.heap.size + 1) rfl rfl 147 (heap_at hsz) (by omega) hbW.size ?_
        intro v' w' hown' hg'
        have HO2 := Lib.hid hown'
        have HB2 := Lib.hid (below_grown hbW hbW.size hg' (fun k hk => (HOWN.out.lt k hk).1))
        clear hown' hg' howW hbW hconv harr hx0 hx1 hx2 hx3 HB1
        go_wp2
        go_round
        case rel =>
          refine ⟨i + 1, by omega, by go_num, ?_, ?_, HB2.out⟩
          · rw [(pow_short hin).1, (pow_short hin).2]
          · rw [wordsL, nextW, if_pos hin]; exact HO2.out
        case measure => simp [intOf]; omega
      · have hin' : ¬ (i : Int) < (8 : Int) := by omega
        have hg : ∃ g cap, u5 = .slice (some ⟨g, 0, none⟩) i cap ∧ w.heap.size ≤ g ∧ g < wr.heap.size ∧ (∀ j, j < i * 4 → wr.cell? ⟨g, j, none⟩ = some (.int .u8 (((wordsL T key 8 i).getD j 0 : Nat) : Int))) := by
          rcases hown.2 with ⟨_, h0⟩ | ⟨g, cap, cur, h1, h2, h3, _, _, _, _⟩
          · omega
          · subst h1
            refine ⟨g, cap, rfl, h2, ?_, fun j hj => ?_⟩
            · exact (hown.lt g rfl).2
            · rw [hown.cellAt j hj]
              simp [vals, List.getD, wordsL_length, hj]
        obtain ⟨g, cap, rfl, hg1, hg2, hcell⟩ := hg
        have HCELL := Lib.hid hcell
        have HBY := Lib.hid (wordsL_bytes HTB.out key 8 i)
        clear hown hbel hcell
        have hp0 := HCELL.out ((i - 1) * 4) (by omega)
        have hp1 := HCELL.out ((i - 1) * 4 + 1) (by omega)
        have hp2 := HCELL.out ((i - 1) * 4 + 2) (by omega)
        have hp3 := HCELL.out ((i - 1) * 4 + 3) (by omega)
        have hi1 : (1 : Int) ≤ (i : Int) := by omega
        have hb0 := HBY.out ((i - 1) * 4)
        have hb1 := HBY.out ((i - 1) * 4 + 1)
        have hb2 := HBY.out ((i - 1) * 4 + 2)
        have hb3 := HBY.out ((i - 1) * 4 + 3)
        have hrow : rowOf (wordsL T key 8 i) (i - 1) = [(wordsL T key 8 i).getD ((i - 1) * 4) 0, (wordsL T key 8 i).getD ((i - 1) * 4 + 1) 0, (wordsL T key 8 i).getD ((i - 1) * 4 + 2) 0, (wordsL T key 8 i).getD ((i - 1) * 4 + 3) 0] := rfl
        generalize (wordsL T key 8 i).getD ((i - 1) * 4) 0 = q0 at *
        generalize (wordsL T key 8 i).getD ((i - 1) * 4 + 1) 0 = q1 at *
        generalize (wordsL T key 8 i).getD ((i - 1) * 4 + 2) 0 = q2 at *
        generalize (wordsL T key 8 i).getD ((i - 1) * 4 + 3) 0 = q3 at *
        have HROW := Lib.hid hrow
        have HQB := Lib.hid (bytes_four hb0 hb1 hb2 hb3)
        clear hrow hb0 hb1 hb2 hb3
        have htm : (i : Int).tmod (8 : Int) = ((i % 8 : Nat) : Int) := by rw [Int.tmod_eq_emod_of_nonneg (by omega)]; rfl
        by_cases hB : i % 8 = 0
        · have hsubW : subW T (rotW [q0, q1, q2, q3]) = [T.getD q1 0, T.getD q2 0, T.getD q3 0, T.getD q0 0] := rfl
          have htemp : tempW T 8 i [q0, q1, q2, q3] = [T.getD q1 0 ^^^ pow2 ((i - 1) / 8), T.getD q2 0, T.getD q3 0, T.getD q0 0] := by rw [tempW, if_pos hB, hsubW]; rfl
          have hT2 : TabAt (wr.alloc (.cells (nums .u8 [q0, q1, q2, q3]) 147)) cb 2 T := tabAt_below ((HBEL.out.alloc HBEL.out.size _)) hlt HT
          have hqb := HQB.out
          have hword := word_any T [q1, q2, q3, q0] cb (wr.alloc (.cells (nums .u8 [q0, q1, q2, q3]) 147)) rfl (bytes_four (hqb 1) (hqb 2) (hqb 3) (hqb 0)) hT2
          have hsub : tab (thrF T [q1, q2, q3, q0]) 4 = [T.getD q1 0, T.getD q2 0, T.getD q3 0, T.getD q0 0] := rfl
          rw [hsub] at hword
          have hr0 := HTB.out q0
          have hr1 := HTB.out q1
          have hr2 := HTB.out q2
          have hr3 := HTB.out q3
          have hpl := pow2_lt ((i - 1) / 8)
          have hstep := pow_step (n := 8) (i := i) (by omega) (by omega) hB
          generalize T.getD q0 0 = r0 at *
          generalize T.getD q1 0 = r1 at *
          generalize T.getD q2 0 = r2 at *
          generalize T.getD q3 0 = r3 at *
          generalize pow2 ((i - 1) / 8) = pq at *
          have hx := u8_xor_nat r1 pq hr1 hpl
          have hxl := xor_lt hr1 hpl
          have htimes := fun W => Times_any pq 2 W hpl (by omega)
          generalize r1 ^^^ pq = t0 at *
          generalize mulB pq 2 = pn at *
          have HRB := Lib.hid (bytes_four hxl hr2 hr3 hr0)
          unfold nums at hword
          simp only [List.map_cons, List.map_nil] at hword
          have HTEMP := Lib.hid htemp
          have HWORD := Lib.hid hword
          have HTIMES := Lib.hid htimes
          have HSTEP := Lib.hid hstep
          have hB2 : (i : Int) % (8 : Int) = 0 := by omega
          clear htm hword htemp hsubW hsub hT2 hr0 hr1 hr2 hr3 hqb htimes hstep hpl hxl
          go_wp2_with fail
          refine Calls.ext HWORD.out fun u => ?_
          go_wp2_with fail
          refine Calls.mono (HTIMES.out _) ?_
          rintro _ _ ⟨rfl, rfl⟩
          go_wp2
          go_loopw [79] (fun s79 wr2 => ∃ (k : Nat) (m : List Nat) (u : Xt), k ≤ 4 ∧ s79 = .int .i64 k ∧ m = fillN (addF [t0, r2, r3, r0] (rowOf (wordsL T key 8 i) (i - 8))) [t0, r2, r3, r0] k ∧ m.length = 4 ∧ wr2 = ext (wr.alloc (.cells (nums .u8 m) 147)) u) (fun s _ => 4 - (intOf s).toNat)
          case atStart => exact ⟨0, [t0, r2, r3, r0], u, by omega, rfl, rfl, rfl, rfl⟩
          case round =>
            clear u
            obtain ⟨k, m, u, hk, rfl, hm, hml, rfl⟩ := hrel
            have HM := Lib.hid hm
            clear hm
            by_cases h4 : k = 4
            · subst h4
              obtain ⟨m0, m1, m2, m3, rfl⟩ := len4 m hml
              clear hml
              unfold nums
              go_wp2_with (at_builtin; refine RowKit.Hid.out ?_)
              refine Lib.hid ?_
              rw [nums4, nums4]
              have hbW : Below w.heap.size w ((ext (wr.alloc (.cells (nums .u8 [m0, m1, m2, m3]) 147)) u).alloc (.cells (nums .u8 [m0, m1, m2, m3]) 147)) := by
                have hs1 := HBEL.out.size
                exact (Proofs.YtlbpodddokhmaaaGreat.Below.ext (HBEL.out.alloc hs1 _) (by simp; omega) u).alloc (by simp; omega) _
              have howW := HOWN.out.kept (grown_of_below ((Proofs.YtlbpodddokhmaaaGreat.Below.ext ((Below.refl wr.heap.size wr).alloc (Nat.le_refl _) (.cells (nums .u8 [m0, m1, m2, m3]) 147)) (by simp) u).alloc (by simp; omega) (.cells (nums .u8 [m0, m1, m2, m3]) 147)) none) (by simp [Value.ownBlock])
              refine app_word rfl (.tmp 96) (.tmp 98) rfl (some 99) rfl w.heap.size (.slice (some ⟨g, 0, none⟩) i cap) i (wordsL T key 8 i) [m0, m1, m2, m3] rfl howW (wr.heap.size + 1 + more u) rfl rfl 147 (heap_at (by simp)) (by omega) hbW.size ?_
              intro v' w' hown' hg'
              have HO2 := Lib.hid hown'
              have HB2 := Lib.hid (below_grown hbW hbW.size hg' (fun k hk => (HOWN.out.lt k hk).1))
              clear hown' hg' howW hbW hp0 hp1 hp2 hp3
              go_wp2
              go_round
              case rel =>
                refine ⟨i + 1, by omega, by go_num, by rw [HSTEP.out], ?_, HB2.out⟩
                rw [wordsL, nextW, if_neg hin, HROW.out, HTEMP.out]
                have e := HM.out
                rw [fillN_full (n := 4) _ rfl] at e
                rw [← e]
                exact HO2.out
              case measure => simp [intOf]; omega
            · have hlk : (k : Int) < 4 := by omega
              have hlk' : k < 4 := by omega
              have hg := nums_getD .u8 (l := m) (i := k) (by omega)
              have hc2 := HCELL.out ((i - 8) * 4 + k) (by omega)
              have hmk : m.getD k 0 = [t0, r2, r3, r0].getD k 0 := by
                rw [HM.out, fillN_get _ _ _ _ (by simp; omega), if_neg (by omega)]
              have hqk : [t0, r2, r3, r0].getD k 0 < 256 := HRB.out k
              have hlk2 : (wordsL T key 8 i).getD ((i - 8) * 4 + k) 0 < 256 := HBY.out _
              have hadd : addF [t0, r2, r3, r0] (rowOf (wordsL T key 8 i) (i - 8)) k = [t0, r2, r3, r0].getD k 0 ^^^ (wordsL T key 8 i).getD ((i - 8) * 4 + k) 0 := by
                unfold addF; rw [rowOf_getD _ _ _ hlk']
              have hx := u8_xor_nat _ _ hqk hlk2
              rw [← hadd] at hx
              rw [hmk] at hg
              have HX := Lib.hid hx
              clear hx hadd hmk
              generalize [t0, r2, r3, r0].getD k 0 = y at *
              generalize (wordsL T key 8 i).getD ((i - 8) * 4 + k) 0 = z at *
              have hni : (8 : Int) ≤ (i : Int) := by omega
              have hge : ∀ h, (nums .u8 m)[k]'h = .int .u8 (y : Int) := fun h => by rw [Array.getElem?_eq_getElem h] at hg; exact Option.some.inj hg
              go_wp2
              go_region
              go_wp2
              go_round
              case rel =>
                refine ⟨k + 1, m.set k (addF [t0, r2, r3, r0] (rowOf (wordsL T key 8 i) (i - 8)) k), bump u, by omega, by go_num, ?_, by simp [hml], ?_⟩
                · rw [HM.out]; rfl
                · rw [HX.out, nums_set]
              case measure => simp [intOf]; omega
        · by_cases hC : 8 = 8 ∧ i % 8 = 4
          · have hsubW : subW T [q0, q1, q2, q3] = [T.getD q0 0, T.getD q1 0, T.getD q2 0, T.getD q3 0] := rfl
            have htemp : tempW T 8 i [q0, q1, q2, q3] = [T.getD q0 0, T.getD q1 0, T.getD q2 0, T.getD q3 0] := by rw [tempW, if_neg hB, if_pos hC, hsubW]
            have hT2 : TabAt (wr.alloc (.cells (nums .u8 [q0, q1, q2, q3]) 147)) cb 2 T := tabAt_below ((HBEL.out.alloc HBEL.out.size _)) hlt HT
            have hword := word_any T [q0, q1, q2, q3] cb (wr.alloc (.cells (nums .u8 [q0, q1, q2, q3]) 147)) rfl HQB.out hT2
            have hsub : tab (thrF T [q0, q1, q2, q3]) 4 = [T.getD q0 0, T.getD q1 0, T.getD q2 0, T.getD q3 0] := rfl
            rw [hsub] at hword
            have hr0 := HTB.out q0
            have hr1 := HTB.out q1
            have hr2 := HTB.out q2
            have hr3 := HTB.out q3
            generalize T.getD q0 0 = r0 at *
            generalize T.getD q1 0 = r1 at *
            generalize T.getD q2 0 = r2 at *
            generalize T.getD q3 0 = r3 at *
            unfold nums at hword
            simp only [List.map_cons, List.map_nil] at hword
            have HTEMP := Lib.hid htemp
            have HWORD := Lib.hid hword
            have HRB := Lib.hid (bytes_four hr0 hr1 hr2 hr3)
            have hC2 : (i : Int) % 8 = 4 := by omega
            have hC3 : ¬ (i : Int) % 8 = 0 := by omega
            clear htm hword htemp hsubW hsub hT2 hr0 hr1 hr2 hr3 hC
            go_wp2_with fail
            refine Calls.ext HWORD.out fun u => ?_
            go_wp2
            go_loopw [79] (fun s79 wr2 => ∃ (k : Nat) (m : List Nat) (u : Xt), k ≤ 4 ∧ s79 = .int .i64 k ∧ m = fillN (addF [r0, r1, r2, r3] (rowOf (wordsL T key 8 i) (i - 8))) [r0, r1, r2, r3] k ∧ m.length = 4 ∧ wr2 = ext (wr.alloc (.cells (nums .u8 m) 147)) u) (fun s _ => 4 - (intOf s).toNat)
            case atStart => exact ⟨0, [r0, r1, r2, r3], u, by omega, rfl, rfl, rfl, rfl⟩
            case round =>
              clear u
              obtain ⟨k, m, u, hk, rfl, hm, hml, rfl⟩ := hrel
              have HM := Lib.hid hm
              clear hm
              by_cases h4 : k = 4
              · subst h4
                obtain ⟨m0, m1, m2, m3, rfl⟩ := len4 m hml
                clear hml
                unfold nums
                go_wp2_with (at_builtin; refine RowKit.Hid.out ?_)
                refine Lib.hid ?_
                rw [nums4, nums4]
                have hbW : Below w.heap.size w ((ext (wr.alloc (.cells (nums .u8 [m0, m1, m2, m3]) 147)) u).alloc (.cells (nums .u8 [m0, m1, m2, m3]) 147)) := by
                  have hs1 := HBEL.out.size
                  exact (Proofs.YtlbpodddokhmaaaGreat.Below.ext (HBEL.out.alloc hs1 _) (by simp; omega) u).alloc (by simp; omega) _
                have howW := HOWN.out.kept (grown_of_below ((Proofs.YtlbpodddokhmaaaGreat.Below.ext ((Below.refl wr.heap.size wr).alloc (Nat.le_refl _) (.cells (nums .u8 [m0, m1, m2, m3]) 147)) (by simp) u).alloc (by simp; omega) (.cells (nums .u8 [m0, m1, m2, m3]) 147)) none) (by simp [Value.ownBlock])
                refine app_word rfl (.tmp 96) (.tmp 98) rfl (some 99) rfl w.heap.size (.slice (some ⟨g, 0, none⟩) i cap) i (wordsL T key 8 i) [m0, m1, m2, m3] rfl howW (wr.heap.size + 1 + more u) rfl rfl 147 (heap_at (by simp)) (by omega) hbW.size ?_
                intro v' w' hown' hg'
                have HO2 := Lib.hid hown'
                have HB2 := Lib.hid (below_grown hbW hbW.size hg' (fun k hk => (HOWN.out.lt k hk).1))
                clear hown' hg' howW hbW hp0 hp1 hp2 hp3
                go_wp2
                go_round
                case rel =>
                  refine ⟨i + 1, by omega, by go_num, by rw [pow_stay (by omega) hB], ?_, HB2.out⟩
                  rw [wordsL, nextW, if_neg hin, HROW.out, HTEMP.out]
                  have e := HM.out
                  rw [fillN_full (n := 4) _ rfl] at e
                  rw [← e]
                  exact HO2.out
                case measure => simp [intOf]; omega
              · have hlk : (k : Int) < 4 := by omega
                have hlk' : k < 4 := by omega
                have hg := nums_getD .u8 (l := m) (i := k) (by omega)
                have hc2 := HCELL.out ((i - 8) * 4 + k) (by omega)
                have hmk : m.getD k 0 = [r0, r1, r2, r3].getD k 0 := by
                  rw [HM.out, fillN_get _ _ _ _ (by simp; omega), if_neg (by omega)]
                have hqk : [r0, r1, r2, r3].getD k 0 < 256 := HRB.out k
                have hlk2 : (wordsL T key 8 i).getD ((i - 8) * 4 + k) 0 < 256 := HBY.out _
                have hadd : addF [r0, r1, r2, r3] (rowOf (wordsL T key 8 i) (i - 8)) k = [r0, r1, r2, r3].getD k 0 ^^^ (wordsL T key 8 i).getD ((i - 8) * 4 + k) 0 := by
                  unfold addF; rw [rowOf_getD _ _ _ hlk']
                have hx := u8_xor_nat _ _ hqk hlk2
                rw [← hadd] at hx
                rw [hmk] at hg
                have HX := Lib.hid hx
                clear hx hadd hmk
                generalize [r0, r1, r2, r3].getD k 0 = y at *
                generalize (wordsL T key 8 i).getD ((i - 8) * 4 + k) 0 = z at *
                have hni : (8 : Int) ≤ (i : Int) := by omega
                have hge : ∀ h, (nums .u8 m)[k]'h = .int .u8 (y : Int) := fun h => by rw [Array.getElem?_eq_getElem h] at hg; exact Option.some.inj hg
                go_wp2
                go_region
                go_wp2
                go_round
                case rel =>
                  refine ⟨k + 1, m.set k (addF [r0, r1, r2, r3] (rowOf (wordsL T key 8 i) (i - 8)) k), bump u, by omega, by go_num, ?_, by simp [hml], ?_⟩
                  · rw [HM.out]; rfl
                  · rw [HX.out, nums_set]
                case measure => simp [intOf]; omega
          · have ht2 : ¬ (8 = 8 ∧ i % 8 = 4) := hC
            have HTEMP := Lib.hid (show tempW T 8 i [q0, q1, q2, q3] = [q0, q1, q2, q3] by rw [tempW, if_neg hB, if_neg hC])
            have hB' : ¬ ((i : Int) % (8 : Int) = 0) := by omega
            have hC' : ¬ (i : Int) % 8 = 4 := by omega
            clear htm
            go_wp2
            go_loopw [79] (fun s79 wr2 => ∃ (k : Nat) (m : List Nat) (u : Xt), k ≤ 4 ∧ s79 = .int .i64 k ∧ m = fillN (addF [q0, q1, q2, q3] (rowOf (wordsL T key 8 i) (i - 8))) [q0, q1, q2, q3] k ∧ m.length = 4 ∧ wr2 = ext (wr.alloc (.cells (nums .u8 m) 147)) u) (fun s _ => 4 - (intOf s).toNat)
            case atStart => exact ⟨0, [q0, q1, q2, q3], ⟨#[], wr.drawn⟩, by omega, rfl, rfl, rfl, rfl⟩
            case round =>
              obtain ⟨k, m, u, hk, rfl, hm, hml, rfl⟩ := hrel
              have HM := Lib.hid hm
              clear hm
              by_cases h4 : k = 4
              · subst h4
                obtain ⟨m0, m1, m2, m3, rfl⟩ := len4 m hml
                clear hml
                unfold nums
                go_wp2_with (at_builtin; refine RowKit.Hid.out ?_)
                refine Lib.hid ?_
                rw [nums4, nums4]
                have hbW : Below w.heap.size w ((ext (wr.alloc (.cells (nums .u8 [m0, m1, m2, m3]) 147)) u).alloc (.cells (nums .u8 [m0, m1, m2, m3]) 147)) := by
                  have hs1 := HBEL.out.size
                  exact (Proofs.YtlbpodddokhmaaaGreat.Below.ext (HBEL.out.alloc hs1 _) (by simp; omega) u).alloc (by simp; omega) _
                have howW := HOWN.out.kept (grown_of_below ((Proofs.YtlbpodddokhmaaaGreat.Below.ext ((Below.refl wr.heap.size wr).alloc (Nat.le_refl _) (.cells (nums .u8 [m0, m1, m2, m3]) 147)) (by simp) u).alloc (by simp; omega) (.cells (nums .u8 [m0, m1, m2, m3]) 147)) none) (by simp [Value.ownBlock])
                refine app_word rfl (.tmp 96) (.tmp 98) rfl (some 99) rfl w.heap.size (.slice (some ⟨g, 0, none⟩) i cap) i (wordsL T key 8 i) [m0, m1, m2, m3] rfl howW (wr.heap.size + 1 + more u) rfl rfl 147 (heap_at (by simp)) (by omega) hbW.size ?_
                intro v' w' hown' hg'
                have HO2 := Lib.hid hown'
                have HB2 := Lib.hid (below_grown hbW hbW.size hg' (fun k hk => (HOWN.out.lt k hk).1))
                clear hown' hg' howW hbW hp0 hp1 hp2 hp3
                go_wp2
                go_round
                case rel =>
                  refine ⟨i + 1, by omega, by go_num, by rw [pow_stay (by omega) hB], ?_, HB2.out⟩
                  rw [wordsL, nextW, if_neg hin, HROW.out, HTEMP.out]
                  have e := HM.out
                  rw [fillN_full (n := 4) _ rfl] at e
                  rw [← e]
                  exact HO2.out
                case measure => simp [intOf]; omega
              · have hlk : (k : Int) < 4 := by omega
                have hlk' : k < 4 := by omega
                have hg := nums_getD .u8 (l := m) (i := k) (by omega)
                have hc2 := HCELL.out ((i - 8) * 4 + k) (by omega)
                have hmk : m.getD k 0 = [q0, q1, q2, q3].getD k 0 := by
                  rw [HM.out, fillN_get _ _ _ _ (by simp; omega), if_neg (by omega)]
                have hqk : [q0, q1, q2, q3].getD k 0 < 256 := HQB.out k
                have hlk2 : (wordsL T key 8 i).getD ((i - 8) * 4 + k) 0 < 256 := HBY.out _
                have hadd : addF [q0, q1, q2, q3] (rowOf (wordsL T key 8 i) (i - 8)) k = [q0, q1, q2, q3].getD k 0 ^^^ (wordsL T key 8 i).getD ((i - 8) * 4 + k) 0 := by
                  unfold addF; rw [rowOf_getD _ _ _ hlk']
                have hx := u8_xor_nat _ _ hqk hlk2
                rw [← hadd] at hx
                rw [hmk] at hg
                have HX := Lib.hid hx
                clear hx hadd hmk
                generalize [q0, q1, q2, q3].getD k 0 = y at *
                generalize (wordsL T key 8 i).getD ((i - 8) * 4 + k) 0 = z at *
                have hni : (8 : Int) ≤ (i : Int) := by omega
                have hge : ∀ h, (nums .u8 m)[k]'h = .int .u8 (y : Int) := fun h => by rw [Array.getElem?_eq_getElem h] at hg; exact Option.some.inj hg
                go_wp2
                go_region
                go_wp2
                go_round
                case rel =>
                  refine ⟨k + 1, m.set k (addF [q0, q1, q2, q3] (rowOf (wordsL T key 8 i) (i - 8)) k), bump u, by omega, by go_num, ?_, by simp [hml], ?_⟩
                  · rw [HM.out]; rfl
                  · rw [HX.out, nums_set]
                case measure => simp [intOf]; omega
end Go.Proofs.YtlbpodddokhmaaaGreat.Aes
