/-
  The walk of the sealer's stream and tag.
  Conditions: named at each.
-/
import Derived.Test.YtlbpodddokhmaaaGreatGf9
import Derived.Deep.CutRange
namespace Go.Proofs.YtlbpodddokhmaaaGreat.Gf
open Go.ChangeShapes Go.WideShapes Go.ChangeAt Go.RowKit Go.Deep
open Go.Proofs.YtlbpodddokhmaaaGreat.Aes (CipherAt stN wordsL subT subT_bytes)
/-- The counters, one behind another. -/
def ctr (first : List UInt8) : Nat → List UInt8
  | 0 => first
  | k + 1 => next16 (ctr first k)
theorem ctr_length {first : List UInt8} (h : first.length = 16) : ∀ k, (ctr first k).length = 16
  | 0 => h
  | k + 1 => by rw [ctr, next16_length, ctr_length h k]
/-- The stream's text behind k blocks. -/
def strN (key first text : List UInt8) : Nat → List UInt8
  | 0 => []
  | k + 1 => strN key first text k ++ orB (blk text k) (E key (ctr first (k + 1)))
def streamB (key first text : List UInt8) : List UInt8 := strN key first text ((text.length + 15) / 16)
theorem orB_length (x y : List UInt8) : (orB x y).length = x.length := by rw [orB, List.length_map, tab_length]
theorem blk_length (l : List UInt8) (k : Nat) : (blk l k).length = min 16 (l.length - 16 * k) := by rw [blk, List.length_take, List.length_drop]
theorem strN_length (key first text : List UInt8) : ∀ k, 16 * k ≤ text.length + 15 → (strN key first text k).length = min (16 * k) text.length
  | 0, _ => by simp [strN]
  | k + 1, h => by
    rw [strN, List.length_append, strN_length key first text k (by omega), orB_length, blk_length]
    omega
theorem streamB_length (key first text : List UInt8) : (streamB key first text).length = text.length := by
  rw [streamB, strN_length _ _ _ _ (by omega)]; omega
theorem byteCells_length (l : List UInt8) : (Lib.byteCells l).length = l.length := by simp [Lib.byteCells]
theorem byteCells_append (a b : List UInt8) : Lib.byteCells (a ++ b) = Lib.byteCells a ++ Lib.strCells (B b) := by
  simp [Lib.byteCells, Lib.strCells, B]
theorem builder_below {w w' : World} {BB b : Nat} {bs : List Value} (h : Below w.heap.size w w') (hb : Lib.IsBuilder Bld.T72 Bld.T5 BB b bs w) : Lib.IsBuilder Bld.T72 Bld.T5 BB b bs w' := by
  have key : ∀ p, Lib.BuilderAt Bld.T72 Bld.T5 BB b p bs w → Lib.BuilderAt Bld.T72 Bld.T5 BB b p bs w' := by
    rintro p ⟨h1, v, h2, h3, h4⟩
    exact ⟨h1, v, below_heap h (Aes.lt_of_heap h2) h2, h3.kept (Aes.grown_of_below h none) (by cases hv : v.ownBlock <;> simp), h4⟩
  exact hb.imp (key _) (key _)
theorem strN_end (key first text : List UInt8) (k : Nat) (h : text.length ≤ 16 * k) (h2 : 16 * k ≤ text.length + 15) : strN key first text k = streamB key first text := by
  rw [streamB, show (text.length + 15) / 16 = k by omega]
set_option maxHeartbeats 800000 in
set_option maxRecDepth 100000 in
theorem stream_any (key first text : List UInt8) (sb : Nat) (w : World) (hk : keyOk key) (hf : first.length = 16) (hs : SealerAt w sb key first) (ht : text.length ≤ 1000000) : Calls Tryz.prog 85 #[.pointer (some ⟨sb, 0, none⟩), .string (B text)] w fun e w' => e = .returned (.string (B (streamB key first text))) ∧ Below w.heap.size w w' := by
  obtain ⟨cb, hsb, hc⟩ := hs
  have hlt := Aes.lt_of_heap hsb
  have h2 : w.cell? ⟨sb, 2, none⟩ = some (.string (B first)) := by rw [cell_of_row w sb 2 _ _ _ hsb]; rfl
  have HK := Lib.hid hk
  have HF := Lib.hid hf
  have HSB := Lib.hid hsb
  have HC := Lib.hid hc
  clear hk hf hsb hc
  go_enter Tryz.func85, Tryz.ntmps85
  go_wp2
  go_loopw [1, 6] (fun s1 s6 wr => ∃ k : Nat, 16 * k ≤ text.length + 15 ∧ s1 = .string (B (text.drop (16 * k))) ∧ s6 = .string (B (ctr first k)) ∧ Lib.IsBuilder Bld.T72 Bld.T5 w.heap.size w.heap.size (Lib.byteCells (strN key first text k)) wr ∧ Below w.heap.size w wr) (fun s _ _ => match s with | .string b => b.size | _ => 0)
  case atStart => 
    refine ⟨0, by omega, by simp, rfl, .inl ⟨Nat.le_refl _, .slice none 0 0, heap_alloc_last w _, World.ownsRow_nil _ _ _ _, by simp [Value.ownBlock]⟩, by ((repeat' (with_reducible first | exact Below.refl _ _ | assumption | refine Below.drew ?_ | refine below_drewN ?_ _ | refine Below.setCell ?_ ?_ _ | refine Below.alloc ?_ ?_ _ | refine Below.ext ?_ ?_ _ | refine Below.trans ?_ (Below.mono ‹_› ?_))) <;> first | omega | (simp; done) | (simp; omega))⟩
  case round =>
    obtain ⟨k, hk, rfl, rfl, hbld, hbel⟩ := hrel
    have HBLD := Lib.hid hbld
    have HBEL := Lib.hid hbel
    by_cases hend : text.length ≤ 16 * k
    · rw [show text.drop (16 * k) = [] from List.drop_eq_nil_of_le (by omega)]
      have hkl : strN key first text k = streamB key first text := strN_end key first text k hend hk
      rw [hkl] at HBLD
      have HST := Lib.hid (Tryz.Builder_String_any w.heap.size w.heap.size (streamB key first text) wr HBLD.out HBEL.out.size)
      clear hbld hbel hkl
      go_wp2_with fail
      refine Calls.mono HST.out ?_
      rintro _ W1 ⟨rfl, hb1⟩
      have HB1 := Lib.hid hb1
      clear hb1
      go_wp2
      go_ret
      exact ⟨rfl, HBEL.out.trans HB1.out⟩
    · have hlt2 : 16 * k < text.length := by omega
      have hemp : (text.drop (16 * k)).isEmpty = false := by
        rw [List.isEmpty_eq_false_iff]
        intro e
        have := congrArg List.length e
        rw [List.length_drop] at this
        simp at this
        omega
      have hcl := ctr_length HF.out k
      have HNX := Lib.hid fun W => next_any (ctr first k) W hcl
      clear hbld hbel
      go_wp2_with fail
      refine Calls.ext (HNX.out _) fun u1 => ?_
      go_upto_region 6 with fail
      obtain ⟨nn, hnn⟩ : ∃ nn, nn = min 16 (text.length - 16 * k) := ⟨_, rfl⟩
      have hmin : min 16 ((text.length - 16 * k : Nat) : Int) = (nn : Int) := by omega
      rw [hmin]
      have hn1 : (nn : Int) ≤ ((text.length - 16 * k : Nat) : Int) := by omega
      have hblk : List.take nn (text.drop (16 * k)) = blk text k := by
        rw [blk, hnn]
        by_cases h16 : 16 ≤ text.length - 16 * k
        · rw [Nat.min_eq_left h16]
        · rw [Nat.min_eq_right (by omega), List.take_of_length_le (by rw [List.length_drop]; omega), List.take_of_length_le (by rw [List.length_drop]; omega)]
      have HBLK := Lib.hid hblk
      have hdrop : List.take (text.length - 16 * k - nn) (text.drop (16 * k + nn)) = text.drop (16 * (k + 1)) := by
        rw [List.take_of_length_le (by rw [List.length_drop]; omega)]
        by_cases h16 : 16 ≤ text.length - 16 * k
        · rw [hnn, Nat.min_eq_left h16, Nat.mul_add]
        · rw [hnn, List.drop_eq_nil_of_le (by omega), List.drop_eq_nil_of_le (by omega)]
      have HDROP := Lib.hid hdrop
      have hbl := blk_length text k
      clear hmin hblk hdrop hnn
      have hbld1 := builder_below (ext_below wr u1) HBLD.out
      have hS : Below w.heap.size w (ext wr u1).drew := (Proofs.YtlbpodddokhmaaaGreat.Below.ext HBEL.out HBEL.out.size u1).drew
      refine wp_region_held (S := fun w' => Below w.heap.size w w') (by kernel_rfl) ?_
      change wpAnyH _ _ _ _ _ _ _ _ (ext wr u1).drew
      refine takeH 0 rfl rfl (some 19) rfl (.string (B (text.drop (16 * k)))) (by kernel_rfl) (by kernel_rfl) (by kernel_rfl) (fun _ _ _ h => h) (fun _ _ => rfl) hS ?_
      simp only [Act.put, List.setIfInBounds_toArray, List.set_cons_zero, List.set_cons_succ]
      refine takeH 1 rfl rfl (some 20) rfl (.int .i64 (nn : Int)) (by kernel_rfl) (by kernel_rfl) (by kernel_rfl) (fun _ _ _ h => h) (fun _ _ => rfl) hS ?_
      simp only [Act.put, List.setIfInBounds_toArray, List.set_cons_zero, List.set_cons_succ]
      refine takeH 2 rfl rfl (some 21) rfl (.string (B (blk text k))) (by kernel_rfl) (by kernel_rfl) (by kernel_rfl) (fun _ _ _ h => h) (fun w' hw => ?_) hS ?_
      · go_simp
        rw [HBLK.out]
      simp only [Act.put, List.setIfInBounds_toArray, List.set_cons_zero, List.set_cons_succ]
      refine takeH 3 rfl rfl (some 22) rfl (.pointer (some ⟨sb, 0, none⟩)) (by kernel_rfl) (by kernel_rfl) (by kernel_rfl) (fun _ _ _ h => h) (fun _ _ => rfl) hS ?_
      simp only [Act.put, List.setIfInBounds_toArray, List.set_cons_zero, List.set_cons_succ]
      refine takeH 4 rfl rfl (some 23) rfl (.pointer (some ⟨sb, 0, none⟩)) (by kernel_rfl) (by kernel_rfl) (by kernel_rfl) (fun _ _ _ h => h) (fun _ _ => rfl) hS ?_
      simp only [Act.put, List.setIfInBounds_toArray, List.set_cons_zero, List.set_cons_succ]
      refine takeH 5 rfl rfl (some 24) rfl (.pointer (some ⟨sb, 0, none⟩)) (by kernel_rfl) (by kernel_rfl) (by kernel_rfl) (fun _ _ _ h => h) (fun _ _ => by kernel_rfl) hS ?_
      simp only [Act.put, List.setIfInBounds_toArray, List.set_cons_zero, List.set_cons_succ]
      refine takeH 6 rfl rfl (some 25) rfl (.pointer (some ⟨cb, 0, none⟩)) (by kernel_rfl) (by kernel_rfl) (by kernel_rfl) (fun _ _ _ h => h) (fun w' hw => ?_) hS ?_
      · have h1 : w'.cell? ⟨sb, 0, none⟩ = some (.pointer (some ⟨cb, 0, none⟩)) := by
          rw [cell_of_row w' sb 0 _ _ _ (below_heap hw hlt HSB.out)]; rfl
        go_simp
      simp only [Act.put, List.setIfInBounds_toArray, List.set_cons_zero, List.set_cons_succ]
      refine takeH 7 rfl rfl (some 26) rfl (.string (B (next16 (ctr first k)))) (by kernel_rfl) (by kernel_rfl) (by kernel_rfl) (fun _ _ _ h => h) (fun _ _ => rfl) hS ?_
      simp only [Act.put, List.setIfInBounds_toArray, List.set_cons_zero, List.set_cons_succ]
      refine oneH 8 rfl rfl (by kernel_rfl) fun K hK => ?_
      refine wpH_call (some 27) rfl 92 #[.pointer (some ⟨cb, 0, none⟩), .string (B (next16 (ctr first k)))] (by kernel_rfl) _ _ (Do_any key (next16 (ctr first k)) cb (ext wr u1).drew HK.out (by rw [next16_length]; exact hcl) (cipher_below hS HC.out)) fun W27 hW27 => ?_
      simp only [Act.put, List.setIfInBounds_toArray, List.set_cons_zero, List.set_cons_succ]
      have hS27 : Below w.heap.size w W27 := hS.trans (hW27.mono hS.size)
      have hbld2 := builder_below hW27 hbld1
      refine hK _ _ hS27 fun _ => ?_
      clear hK K
      refine oneH 9 rfl rfl (by kernel_rfl) fun K hK => ?_
      refine wpH_call (some 28) rfl 95 #[.string (B (blk text k)), .string (B (E key (next16 (ctr first k))))] (by kernel_rfl) _ _ (or_any (blk text k) (E key (next16 (ctr first k))) W27 (by rw [E_length]; omega) (by omega)) fun W28 hW28 => ?_
      simp only [Act.put, List.setIfInBounds_toArray, List.set_cons_zero, List.set_cons_succ]
      have hS28 : Below w.heap.size w W28 := hS27.trans (hW28.mono hS27.size)
      have hbld3 := builder_below hW28 hbld2
      refine hK _ _ hS28 fun _ => ?_
      clear hK K
      refine oneH 10 rfl rfl (by kernel_rfl) fun K hK => ?_
      refine wpH_call (some 29) rfl 97 #[.pointer (some ⟨w.heap.size, 0, none⟩), .string (B (orB (blk text k) (E key (next16 (ctr first k)))))] (by kernel_rfl) _ _ (Bld.WriteString w.heap.size w.heap.size _ (B (orB (blk text k) (E key (next16 (ctr first k))))) W28 hbld3 (by rw [byteCells_length, strN_length _ _ _ _ hk, B_size, orB_length, blk_length]; omega) hS28.size) fun W29 hW29 => ?_
      simp only [Act.put, List.setIfInBounds_toArray, List.set_cons_zero, List.set_cons_succ]
      obtain ⟨hbld4, hb29⟩ := hW29
      have hS29 : Below w.heap.size w W29 := hS28.trans hb29
      refine hK _ _ hS29 fun _ => ?_
      clear hK K
      refine wpAnyH_done (by kernel_rfl) ?_ _
      have HB4 := Lib.hid hbld4
      have HS29 := Lib.hid hS29
      clear hbld4 hS29 hS28 hbld3 hS27 hbld2 hS hbld1 hW27 hW28 hb29
      go_wp2
      go_round
      case rel =>
        refine ⟨k + 1, by omega, by rw [HDROP.out], rfl, .inr ?_, HS29.out⟩
        rw [strN, byteCells_append]
        exact HB4.out
      case measure =>
        show (B _).size < (B _).size
        rw [HDROP.out, B_size, B_size, List.length_drop, List.length_drop]
        omega
end Go.Proofs.YtlbpodddokhmaaaGreat.Gf
