/-
  GcmField: products of blocks are commutative, associative, distributive; the block of x^0 is neutral; the product of nonzero blocks is not zero.
  Conditions: none.
-/
import Derived.Test.YtnnoimikoddbcaaGf13
namespace Go.Proofs.Ytnnoimikoddbcaa.GcmField
open Go.ChangeShapes Go.WideShapes Go.ChangeAt Go.RowKit Go.Deep Go.Proofs.Ytnnoimikoddbcaa.Gf
open Go.Proofs.Ytnnoimikoddbcaa.Field (X mul one R)
set_option maxHeartbeats 1600000 in
set_option maxRecDepth 100000 in
theorem field_any (x y z : List UInt8) (w : World) (hx : x.length = 16) (hy : y.length = 16) (hz : z.length = 16) :
    Calls Try.prog 4 #[.agg (nums .u8 (natL x)), .agg (nums .u8 (natL y)), .agg (nums .u8 (natL z))] w fun e w' => e = .returned (.bool true) ∧ Below w.heap.size w w' := by
  have hab : mul (rd x) (rd y) < 2 ^ 128 := Field.mul_lt (rd_lt _)
  have hbc : mul (rd y) (rd z) < 2 ^ 128 := Field.mul_lt (rd_lt _)
  have hac : mul (rd x) (rd z) < 2 ^ 128 := Field.mul_lt (rd_lt _)
  have H1 := fun W => Times_any x y W hx hy
  have H2 := fun W => Times_any y x W hy hx
  rw [Field.mul_comm (rd_lt y) (rd_lt x)] at H2
  have H3 := fun W => Times_any (WR (mul (rd x) (rd y))) z W (WR_length _) hz
  have H4 := fun W => Times_any y z W hy hz
  have H5 := fun W => Times_any x (WR (mul (rd y) (rd z))) W hx (WR_length _)
  rw [rd_WR hab, Field.mul_assoc (rd_lt x) (rd_lt y) (rd_lt z)] at H3
  rw [rd_WR hbc] at H5
  have H6 := fun W => lawor_any y z W (by rw [hy, hz]) (by omega)
  have ho : (orB y z).length = 16 := by rw [orB_length, hy]
  have H7 := fun W => Times_any x (orB y z) W hx ho
  rw [rd_orB y z hy, Field.mul_add] at H7
  have H8 := fun W => Times_any x z W hx hz
  have H9 := fun W => lawor_any (WR (mul (rd x) (rd y))) (WR (mul (rd x) (rd z))) W (by rw [WR_length, WR_length]) (by rw [WR_length]; omega)
  rw [orB_WR _ _ hab hac] at H9
  have H10 := fun W => Times_any x oneL W hx rfl
  rw [rd_one, Field.mul_one (rd_lt x), WR_rd x hx] at H10
  have hzero : WR (mul (rd x) (rd y)) = Z 16 ↔ x = Z 16 ∨ y = Z 16 := by
    rw [← WR_zero, WR_inj hab (by decide)]
    constructor
    · intro h
      rcases Field.no_zero (rd_lt x) (rd_lt y) h with h | h
      · left; rw [← WR_rd x hx, h]
      · right; rw [← WR_rd y hy, h]
    · rintro (h | h)
      · rw [h, WR_zero, rd_Z, Field.mul_comm (by decide) (rd_lt y), Field.mul_zero]
      · rw [h, WR_zero, rd_Z, Field.mul_zero]
  have H0 := Lib.hid awake_any
  have hmk : ∀ W : World, (Instr.makeSlice 24 (.int .i64 16) (.int .i64 16)).run Try.prog W = .ok (.slice (some ⟨W.heap.size, 0, none⟩) 16 16) (W.alloc (.cells (nums .u8 (Aes.zeros 16)) 5)) := fun W => by
    have h := run_make_row' (P := Try.prog) 24 5 (.int .u8 0) 1 Try.underlying24 Bld.infoByte rfl .i64 .i64 16 (by omega) (by omega) W
    rw [show madeCells #[.int .u8 0] 16 = nums .u8 (Aes.zeros 16) by kernel_rfl] at h
    exact h
  have hcz0 : ∀ W : World, (convert 24 9 (.slice (some ⟨W.heap.size, 0, none⟩) 16 16)).run Try.prog (W.alloc (.cells (nums .u8 (Aes.zeros 16)) 5)) = .ok (.string (B (Z 16))) (W.alloc (.cells (nums .u8 (Aes.zeros 16)) 5)) := fun W => by
    have h := string_new (P := Try.prog) W 5 24 9 5 16 16 (Aes.zeros 16) Try.underlying24 Try.underlying5 Try.underlying9 rfl
    rw [show NB (Aes.zeros 16) = B (Z 16) by simp [NB, Aes.zeros, Z]] at h
    exact h
  clear hab hbc hac ho
  generalize WR (mul (rd x) (rd y)) = T1 at *
  generalize WR (mul (rd x) (mul (rd y) (rd z))) = T3 at *
  generalize WR (mul (rd y) (rd z)) = T4 at *
  generalize orB y z = O at *
  generalize WR (mul (rd x) (rd y) ^^^ mul (rd x) (rd z)) = T6 at *
  generalize WR (mul (rd x) (rd z)) = T8 at *
  have G1 := Lib.hid H1
  have G2 := Lib.hid H2
  have G3 := Lib.hid H3
  have G4 := Lib.hid H4
  have G5 := Lib.hid H5
  have G6 := Lib.hid H6
  have G7 := Lib.hid H7
  have G8 := Lib.hid H8
  have G9 := Lib.hid H9
  have G10 := Lib.hid H10
  have HZ := Lib.hid hzero
  clear H1 H2 H3 H4 H5 H6 H7 H8 H9 H10 hzero
  have hw1 : ∀ b n, (((w.alloc (.cells (nums .u8 (natL x)) 22)).alloc (.cells (nums .u8 (natL y)) 22)).alloc (.cells (nums .u8 (natL z)) 22)).drew.heap[b]? = some (.cells (nums .u8 (natL n)) 22 (0, 0)) → n.length = 16 →
      (convert 24 9 (.slice (some ⟨b, 0, none⟩) 16 16)).run Try.prog (((w.alloc (.cells (nums .u8 (natL x)) 22)).alloc (.cells (nums .u8 (natL y)) 22)).alloc (.cells (nums .u8 (natL z)) 22)).drew = .ok (.string (B n)) (((w.alloc (.cells (nums .u8 (natL x)) 22)).alloc (.cells (nums .u8 (natL y)) 22)).alloc (.cells (nums .u8 (natL z)) 22)).drew := fun b n hb hn => by
    have h := string_of (P := Try.prog) _ 24 9 5 ⟨b, 0, none⟩ 16 16 (natL n) Try.underlying24 Try.underlying5 Try.underlying9 (by rw [natL_length, hn]) (fun j hj => by
      have e1 : (⟨b, 0, none⟩ : Addr).add j = ⟨b, j, none⟩ := by simp [Addr.add]; omega
      rw [e1, cell_of_row _ b j _ _ _ hb, nums_getD .u8 (by rw [natL_length, hn]; exact hj)])
    rw [NB_natL] at h
    exact h
  have hcx := hw1 w.heap.size x (heap_under (heap_under (heap_alloc_last w _))) hx
  have hcy := hw1 (w.heap.size + 1) y (heap_under (heap_at (by simp))) hy
  have hcz := hw1 (w.heap.size + 1 + 1) z (heap_at (by simp)) hz
  clear hw1
  go_enter Try.func4, Try.ntmps4
  go_wp2
  go_region
  clear hcx hcy hcz
  have HBV := Lib.hid (show Below w.heap.size w (((w.alloc (.cells (nums .u8 (natL x)) 22)).alloc (.cells (nums .u8 (natL y)) 22)).alloc (.cells (nums .u8 (natL z)) 22)).drew by ((repeat' (with_reducible first | exact Below.refl _ _ | assumption | refine Below.drew ?_ | refine below_drewN ?_ _ | refine Below.setCell ?_ ?_ _ | refine Below.alloc ?_ ?_ _ | refine Below.ext ?_ ?_ _ | refine Below.trans ?_ (Below.mono ‹_› ?_))) <;> first | omega | (simp; done) | (simp; omega)))
  generalize (((w.alloc (.cells (nums .u8 (natL x)) 22)).alloc (.cells (nums .u8 (natL y)) 22)).alloc (.cells (nums .u8 (natL z)) 22)).drew = V at *
  have HMK := Lib.hid hmk
  have HCZ := Lib.hid hcz0
  have hmk1 := hmk V
  have hcz1 := hcz0 V
  clear hmk hcz0
  go_wp2_with fail
  clear hmk1 hcz1
  refine Calls.ext (H0.out _) fun u0 => ?_
  go_wp2_with fail
  refine Calls.ext (G1.out _) fun u1 => ?_
  go_wp2_with fail
  refine Calls.ext (G2.out _) fun u2 => ?_
  go_wp2_with fail
  refine Calls.ext (G1.out _) fun u3 => ?_
  go_wp2_with fail
  refine Calls.ext (G3.out _) fun u4 => ?_
  go_wp2_with fail
  refine Calls.ext (G4.out _) fun u5 => ?_
  go_wp2_with fail
  refine Calls.ext (G5.out _) fun u6 => ?_
  go_wp2_with fail
  refine Calls.ext (G6.out _) fun u7 => ?_
  go_wp2_with fail
  refine Calls.ext (G7.out _) fun u8 => ?_
  go_wp2_with fail
  refine Calls.ext (G1.out _) fun u9 => ?_
  go_wp2_with fail
  refine Calls.ext (G8.out _) fun u10 => ?_
  go_wp2_with fail
  refine Calls.ext (G9.out _) fun u11 => ?_
  go_wp2_with fail
  refine Calls.ext (G10.out _) fun u12 => ?_
  go_wp2_with fail
  refine Calls.ext (G1.out _) fun u13 => ?_
  have hz2 := HZ.out
  by_cases h1 : x = Z 16
  · have h3 := hz2.2 (.inl h1)
    subst h1
    subst h3
    clear hz2
    go_wp2
    go_ret
    exact ⟨rfl, HBV.out.trans (Below.mono (by ((repeat' (with_reducible first | exact Below.refl _ _ | assumption | refine Below.drew ?_ | refine below_drewN ?_ _ | refine Below.setCell ?_ ?_ _ | refine Below.alloc ?_ ?_ _ | refine Below.ext ?_ ?_ _ | refine Below.trans ?_ (Below.mono ‹_› ?_))) <;> first | omega | (simp; done) | (simp; omega))) HBV.out.size)⟩
  · by_cases h2 : y = Z 16
    · have h3 := hz2.2 (.inr h2)
      subst h2
      subst h3
      have H1 := Lib.hid h1
      clear hz2 h1
      go_wp2
      go_ret
      exact ⟨by simp, HBV.out.trans (Below.mono (by ((repeat' (with_reducible first | exact Below.refl _ _ | assumption | refine Below.drew ?_ | refine below_drewN ?_ _ | refine Below.setCell ?_ ?_ _ | refine Below.alloc ?_ ?_ _ | refine Below.ext ?_ ?_ _ | refine Below.trans ?_ (Below.mono ‹_› ?_))) <;> first | omega | (simp; done) | (simp; omega))) HBV.out.size)⟩
    · have h3 : ¬ T1 = Z 16 := fun e => (hz2.1 e).elim h1 h2
      have e1 : (T1 == Z 16) = false := by simp [h3]
      have e2 : (x == Z 16) = false := by simp [h1]
      have e3 : (y == Z 16) = false := by simp [h2]
      have E1 := Lib.hid (show ((T1 == Z 16) == (x == Z 16 || y == Z 16)) = true by rw [e1, e2, e3]; rfl)
      clear e1 e2 e3 hz2
      go_wp2
      go_ret
      refine ⟨?_, HBV.out.trans (Below.mono (by ((repeat' (with_reducible first | exact Below.refl _ _ | assumption | refine Below.drew ?_ | refine below_drewN ?_ _ | refine Below.setCell ?_ ?_ _ | refine Below.alloc ?_ ?_ _ | refine Below.ext ?_ ?_ _ | refine Below.trans ?_ (Below.mono ‹_› ?_))) <;> first | omega | (simp; done) | (simp; omega))) HBV.out.size)⟩
      show Ending.returned (.bool ((T1 == Z 16) == (x == Z 16 || y == Z 16))) = _
      rw [E1.out]
set_option maxRecDepth 100000 in
theorem walk (W : World) (base : Nat) (args : Array Value) {H : Type} {enc : TypeId × Value → H} (ds : List (DataW H)) (ps : List MemPlace)
    (hval : ∀ (j : Nat) t v, Try.f4.params[j]? = some t → args[j]? = some v → Value.okWide Try.prog W .any base t v)
    (hA : DataW.TrodAll enc Try.prog W 0 (fun _ => true) true Try.f4.params.toList args.toList ds ps) (hlt : ∀ p ∈ ps, p.block < W.heap.size) :
    Calls Try.prog 4 args W fun e W' => e = .returned (.bool true) ∧ Below W.heap.size W W' := by
  rw [Try.params4] at hA hval
  obtain ⟨v0, v1, v2, d0, d1, d2, p0, p1, p2, rfl, rfl, rfl, h0, h1, h2⟩ := trodAll_three hA
  obtain ⟨x, rfl, hx⟩ := open_block (hval 0 22 v0 rfl rfl) h0 (fun p hp => hlt p (by simp [hp]))
  obtain ⟨y, rfl, hy⟩ := open_block (hval 1 22 v1 rfl rfl) h1 (fun p hp => hlt p (by simp [hp]))
  obtain ⟨z, rfl, hz⟩ := open_block (hval 2 22 v2 rfl rfl) h2 (fun p hp => hlt p (by simp [hp]))
  exact field_any x y z W hx hy hz
set_option maxRecDepth 100000 in
theorem lifted (os : Os) (started : os.Started) (H : Type) (enc : TypeId × Value → H) :
    ReturnsInHanded {} Try.checked os 4 .any (Rows.gcmFieldSpec.pre6 enc Try.prog Try.f4 Rows.gcmFieldRow.domain false) (Rows.gcmFieldSpec.post enc Try.prog Try.f4 false true false false) :=
  law_lift (C := Try.checked) (tb := 4) (by kernel_rfl) started (by kernel_rfl) Try.func4
    (ChangeSpec.witness6 (enc := enc) (C := Try.checked) false ⟨#[], #[.agg (nums .u8 (natL (Z 16))), .agg (nums .u8 (natL (Z 16))), .agg (nums .u8 (natL (Z 16)))], []⟩ 8 (by kernel_rfl) (by kernel_rfl) (by kernel_rfl) (by kernel_rfl))
    (by kernel_rfl) (by kernel_rfl) rfl (by kernel_rfl) Try.underlying4 (fun ds h => by match ds, h with | [_, _, _], _ => exact ⟨rfl, rfl, rfl⟩)
    (fun W base args ds ps hval hA hlt => walk W base args ds ps hval hA hlt)
theorem over : Rows.gcmFieldRow.holds Try.pinned (OpenSpec.ofChange Rows.gcmFieldSpec) :=
  OpenClaim.holds_of_wide 4 Try.f4 rfl rfl rfl rfl rfl rfl rfl ⟨rfl, rfl, rfl, rfl, rfl⟩ rfl rfl rfl rfl rfl (by kernel_rfl) Try.func4 (by kernel_rfl)
    (of_decide_eq_true (by kernel_rfl)) (by unfold Func.isWrapper; rw [if_neg (of_decide_eq_false (by kernel_rfl))]; exact ⟨rfl, rfl⟩)
    (fun os started H enc _ => lifted os started H enc)
theorem proved : Rows.GcmFieldSaid := over
#print axioms proved
end Go.Proofs.Ytnnoimikoddbcaa.GcmField
