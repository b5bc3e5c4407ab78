/-
  GcmTimes: of all two blocks the product is the standard's; of other bytes there is none.
  Conditions: none.
-/
import Derived.Test.YtnnoimikoddbcaaRef08c
import Derived.Test.YtnnoimikoddbcaaGf14
import Derived.Test.YtnnoimikoddbcaaOpen2
namespace Go.Proofs.Ytnnoimikoddbcaa.GcmTimes
open Go.ChangeShapes Go.WideShapes Go.ChangeAt Go.RowKit Go.Deep Go.Proofs.Ytnnoimikoddbcaa.Gf
open Go.Proofs.Ytnnoimikoddbcaa.Field (X mul one R)
open Go.Proofs.Ytnnoimikoddbcaa.Ref08 (polyL polyL_length)
open Go.Proofs.Ytnnoimikoddbcaa.Aes (stop_store zeros zeros_length)
theorem wpQuiet_load_row {P : Program} {ops : Array Oper} {C : World → Prop} {rest : List Oper} {o : Oper} {a : Act} {Q : Act → Prop} (hgd : o.guard = none) (dst : Option Tmp) (hdst : o.dst = dst) (ty : TypeId) (x : Operand) (ho : o.op = .load ty x)
    (b : Nat) (hx : a.eval x = .pointer (some ⟨b, 0, none⟩)) (c : Array Value) (t : TypeId) (hC : ∀ w, C w → w.heap[b]? = some (.cells c t (0, 0))) (d : TypeDesc) (hu : P.underlying ty = some d)
    (hd : (match d with | .struct _ | .array _ _ => true | _ => false) = true) (hi : (P.info? ty).map (·.size) = some c.size)
    (h : wpQuiet P ops C Q rest (a.put dst (.agg c))) : wpQuiet P ops C Q (o :: rest) a := by
  refine wpQuiet_step fun K hK => ?_
  rw [if_pos (by simp [Region.wanted, hgd])]
  refine ⟨.agg c, fun w hw => ?_, by rw [hdst]; exact hK _ h⟩
  unfold Oper.quietAt
  rw [run_load_row ty x ho b hx c t (0, 0) (hC w hw) d hu hd hi]
  exact ⟨rfl, rfl⟩
set_option maxHeartbeats 1600000 in
set_option maxRecDepth 100000 in
theorem times_law (x y z : List UInt8) (w : World) (hx : x.length = 16) (hy : y.length = 16) (hz : z.length ≤ maxLen) :
    Calls Try.prog 3 #[.agg (nums .u8 (natL x)), .agg (nums .u8 (natL y)), .string (B z)] w fun e w' => e = .returned (.bool true) ∧ Below w.heap.size w w' := by
  have H0 := Lib.hid awake_any
  by_cases h40 : 40 < z.length
  · have h40i : (40 : Int) < (z.length : Int) := by omega
    clear h40
    go_enter Try.func3, Try.ntmps3
    go_wp2_with fail
    refine Calls.ext (H0.out _) fun u1 => ?_
    go_wp2_with fail
    refine Calls.ext (H0.out _) fun u2 => ?_
    go_wp2
    go_ret
    exact ⟨rfl, by ((repeat' (with_reducible first | exact Below.refl _ _ | assumption | refine Below.drew ?_ | refine below_drewN ?_ _ | refine Below.setCell ?_ ?_ _ | refine Below.alloc ?_ ?_ _ | refine Below.ext ?_ ?_ _ | refine Below.trans ?_ (Below.mono ‹_› ?_))) <;> first | omega | (simp; done) | (simp; omega))⟩
  · have h40i : (z.length : Int) ≤ 40 := by omega
    have hab : mul (rd x) (rd y) < 2 ^ 128 := Field.mul_lt (rd_lt _)
    have H1 := Lib.hid fun W => Gf.Times_any x y W hx hy
    have H2 := Lib.hid fun W => Ref08.Of_any x W hx
    have H3 := Lib.hid fun W => Ref08.Of_any y W hy
    have H4 := Lib.hid fun W => Ref08.Times_any (rd x) (rd y) W (rd_lt x) (rd_lt y)
    have H5 := Lib.hid fun W => Ref08.Bytes_any (mul (rd x) (rd y)) W hab
    have hpl := polyL_length (mul (rd x) (rd y))
    have hw1 : ∀ u b n, (ext ((w.alloc (.cells (nums .u8 (natL x)) 22)).alloc (.cells (nums .u8 (natL y)) 22)) u).drew.heap[b]? = some (.cells (nums .u8 (natL n)) 22 (0, 0)) → n.length = 16 →
        (convert 24 9 (.slice (some ⟨b, 0, none⟩) 16 16)).run Try.prog (ext ((w.alloc (.cells (nums .u8 (natL x)) 22)).alloc (.cells (nums .u8 (natL y)) 22)) u).drew = .ok (.string (B n)) (ext ((w.alloc (.cells (nums .u8 (natL x)) 22)).alloc (.cells (nums .u8 (natL y)) 22)) u).drew := fun u b n hb hn => by
      have h := string_of (P := Try.prog) _ 24 9 5 ⟨b, 0, none⟩ 16 16 (natL n) Try.underlying24 Try.underlying5 Try.underlying9 (by rw [natL_length, hn]) (fun j hj => by
        have e1 : (⟨b, 0, none⟩ : Addr).add j = ⟨b, j, none⟩ := by simp [Addr.add]; omega
        rw [e1, cell_of_row _ b j _ _ _ hb, nums_getD .u8 (by rw [natL_length, hn]; exact hj)])
      rw [NB_natL] at h
      exact h
    have HW1 := Lib.hid hw1
    clear hw1 hab
    generalize WR (mul (rd x) (rd y)) = T1 at *
    generalize polyL (mul (rd x) (rd y)) = P1 at *
    go_enter Try.func3, Try.ntmps3
    go_wp2_with fail
    refine Calls.ext (H0.out _) fun u1 => ?_
    have hcx := HW1.out u1 w.heap.size x (heap_ext (heap_under (heap_alloc_last w _))) hx
    have hcy := HW1.out u1 (w.heap.size + 1) y (heap_ext (heap_at (by simp))) hy
    have hcx' := hcx
    have hcy' := hcy
    rw [drew_ext] at hcx' hcy'
    go_wp2_with fail
    go_region
    clear hcx hcy hcx' hcy'
    go_wp2_with fail
    refine Calls.ext (H2.out _) fun u2 => ?_
    go_wp2_with fail
    refine Calls.ext (H3.out _) fun u3 => ?_
    go_wp2_with fail
    refine Calls.ext (H4.out _) fun u4 => ?_
    go_wp2_with (with_reducible refine stop_store (t := 26) rfl ?_)
    refine Lib.hid ?_
    have hz128 : (nums .u8 (zeros 128)) = Try.zeroCells26 := by kernel_rfl
    have HBV : Below w.heap.size w (ext ((w.alloc (.cells (nums .u8 (natL x)) 22)).alloc (.cells (nums .u8 (natL y)) 22)) (comb (comb (comb (bump u1) u2) u3) u4)) := by ((repeat' (with_reducible first | exact Below.refl _ _ | assumption | refine Below.drew ?_ | refine below_drewN ?_ _ | refine Below.setCell ?_ ?_ _ | refine Below.alloc ?_ ?_ _ | refine Below.ext ?_ ?_ _ | refine Below.trans ?_ (Below.mono ‹_› ?_))) <;> first | omega | (simp; done) | (simp; omega))
    have hV : w.heap.size + 1 + 1 + more (comb (comb (comb (bump u1) u2) u3) u4) = (ext ((w.alloc (.cells (nums .u8 (natL x)) 22)).alloc (.cells (nums .u8 (natL y)) 22)) (comb (comb (comb (bump u1) u2) u3) u4)).heap.size := by simp
    generalize ext ((w.alloc (.cells (nums .u8 (natL x)) 22)).alloc (.cells (nums .u8 (natL y)) 22)) (comb (comb (comb (bump u1) u2) u3) u4) = V at *
    generalize w.heap.size + 1 + 1 + more (comb (comb (comb (bump u1) u2) u3) u4) = n at *
    subst hV
    rw [← hz128]
    refine wpList_store_rowTo rfl 26 _ _ rfl rfl V.heap.size (nums .u8 P1) rfl rfl 26 (nums .u8 (zeros 128)) (heap_alloc_last V _) (by rw [nums_size, hpl]; kernel_rfl) (by rw [nums_size, nums_size, hpl, zeros_length]) (nums_oneCell _ _) ?_
    rw [World.setRow_alloc_new]
    have hheap := heap_alloc_last V (.cells (nums .u8 P1) 26)
    have hsz : V.heap.size < (V.alloc (.cells (nums .u8 P1) 26)).heap.size := lt_of_last
    have HBW : Below w.heap.size w (V.alloc (.cells (nums .u8 P1) 26)) := HBV.trans (Below.mono (by ((repeat' (with_reducible first | exact Below.refl _ _ | assumption | refine Below.drew ?_ | refine below_drewN ?_ _ | refine Below.setCell ?_ ?_ _ | refine Below.alloc ?_ ?_ _ | refine Below.ext ?_ ?_ _ | refine Below.trans ?_ (Below.mono ‹_› ?_))) <;> first | omega | (simp; done) | (simp; omega))) HBV.size)
    generalize (V.alloc (.cells (nums .u8 P1) 26)) = W at *
    clear HBV
    generalize V.heap.size = n at *
    clear V hz128 H2 H3 H4 HW1
    by_cases h16 : z.length = 16
    · have h16i : (z.length : Int) = 16 := by omega
      go_wp2_with fail
      refine wp_region_ext_lit (by kernel_rfl) (by kernel_rfl) ?_
      iterate 3 (first | go_big_quiet_step ((first | (go_at_call 13; with_reducible first | exact Calls.ext_of' (H1.out _) | exact Calls.ext_of (H1.out _)) | (go_at_call 14; with_reducible first | exact Calls.ext_of' (H5.out _) | exact Calls.ext_of (H5.out _)))) | quiet_step ((first | (go_at_call 13; with_reducible first | exact Calls.ext_of' (H1.out _) | exact Calls.ext_of (H1.out _)) | (go_at_call 14; with_reducible first | exact Calls.ext_of' (H5.out _) | exact Calls.ext_of (H5.out _)))))
      refine wpQuiet_load_row rfl _ rfl 26 _ rfl n rfl (nums .u8 P1) 26 (by rintro _ ⟨u, rfl⟩; exact heap_ext hheap) _ Try.underlying26 rfl (by rw [nums_size, hpl]; kernel_rfl) ?_
      repeat (any_goals (first | go_big_quiet_step ((first | (go_at_call 13; with_reducible first | exact Calls.ext_of' (H1.out _) | exact Calls.ext_of (H1.out _)) | (go_at_call 14; with_reducible first | exact Calls.ext_of' (H5.out _) | exact Calls.ext_of (H5.out _)))) | quiet_step ((first | (go_at_call 13; with_reducible first | exact Calls.ext_of' (H1.out _) | exact Calls.ext_of (H1.out _)) | (go_at_call 14; with_reducible first | exact Calls.ext_of' (H5.out _) | exact Calls.ext_of (H5.out _))))))
      refine wpQuiet_nil ?_
      rintro _ ⟨u9, rfl⟩
      go_wp2
      go_ret
      exact ⟨rfl, HBW.trans (Below.mono (by ((repeat' (with_reducible first | exact Below.refl _ _ | assumption | refine Below.drew ?_ | refine below_drewN ?_ _ | refine Below.setCell ?_ ?_ _ | refine Below.alloc ?_ ?_ _ | refine Below.ext ?_ ?_ _ | refine Below.trans ?_ (Below.mono ‹_› ?_))) <;> first | omega | (simp; done) | (simp; omega))) HBW.size)⟩
    · have h16i : ¬ (z.length : Int) = 16 := by omega
      have H6 := Lib.hid fun W => Times_none x z W (.inr h16)
      have H7 := Lib.hid fun W => Times_none z x W (.inl h16)
      go_wp2_with fail
      refine wp_region_ext_lit (by kernel_rfl) (by kernel_rfl) ?_
      iterate 3 (first | go_big_quiet_step ((first | (go_at_call 13; with_reducible first | exact Calls.ext_of' (H1.out _) | exact Calls.ext_of (H1.out _) | exact Calls.ext_of' (H6.out _) | exact Calls.ext_of (H6.out _) | exact Calls.ext_of' (H7.out _) | exact Calls.ext_of (H7.out _)) | (go_at_call 14; with_reducible first | exact Calls.ext_of' (H5.out _) | exact Calls.ext_of (H5.out _)))) | quiet_step ((first | (go_at_call 13; with_reducible first | exact Calls.ext_of' (H1.out _) | exact Calls.ext_of (H1.out _) | exact Calls.ext_of' (H6.out _) | exact Calls.ext_of (H6.out _) | exact Calls.ext_of' (H7.out _) | exact Calls.ext_of (H7.out _)) | (go_at_call 14; with_reducible first | exact Calls.ext_of' (H5.out _) | exact Calls.ext_of (H5.out _)))))
      refine wpQuiet_load_row rfl _ rfl 26 _ rfl n rfl (nums .u8 P1) 26 (by rintro _ ⟨u, rfl⟩; exact heap_ext hheap) _ Try.underlying26 rfl (by rw [nums_size, hpl]; kernel_rfl) ?_
      repeat (any_goals (first | go_big_quiet_step ((first | (go_at_call 13; with_reducible first | exact Calls.ext_of' (H1.out _) | exact Calls.ext_of (H1.out _) | exact Calls.ext_of' (H6.out _) | exact Calls.ext_of (H6.out _) | exact Calls.ext_of' (H7.out _) | exact Calls.ext_of (H7.out _)) | (go_at_call 14; with_reducible first | exact Calls.ext_of' (H5.out _) | exact Calls.ext_of (H5.out _)))) | quiet_step ((first | (go_at_call 13; with_reducible first | exact Calls.ext_of' (H1.out _) | exact Calls.ext_of (H1.out _) | exact Calls.ext_of' (H6.out _) | exact Calls.ext_of (H6.out _) | exact Calls.ext_of' (H7.out _) | exact Calls.ext_of (H7.out _)) | (go_at_call 14; with_reducible first | exact Calls.ext_of' (H5.out _) | exact Calls.ext_of (H5.out _))))))
      refine wpQuiet_nil ?_
      rintro _ ⟨u9, rfl⟩
      go_wp2
      go_ret
      exact ⟨rfl, HBW.trans (Below.mono (by ((repeat' (with_reducible first | exact Below.refl _ _ | assumption | refine Below.drew ?_ | refine below_drewN ?_ _ | refine Below.setCell ?_ ?_ _ | refine Below.alloc ?_ ?_ _ | refine Below.ext ?_ ?_ _ | refine Below.trans ?_ (Below.mono ‹_› ?_))) <;> first | omega | (simp; done) | (simp; omega))) HBW.size)⟩
set_option maxRecDepth 100000 in
theorem walk (W : World) (base : Nat) (args : Array Value) {H : Type} {enc : TypeId × Value → H} (ds : List (DataW H)) (ps : List MemPlace)
    (hval : ∀ (j : Nat) t v, Try.f3.params[j]? = some t → args[j]? = some v → Value.okWide Try.prog W .any base t v)
    (hA : DataW.TrodAll enc Try.prog W 0 (fun _ => true) true Try.f3.params.toList args.toList ds ps) (hlt : ∀ p ∈ ps, p.block < W.heap.size) :
    Calls Try.prog 3 args W fun e W' => e = .returned (.bool true) ∧ Below W.heap.size W W' := by
  rw [Try.params3] at hA hval
  obtain ⟨v0, v1, v2, d0, d1, d2, p0, p1, p2, rfl, rfl, rfl, h0, h1, h2⟩ := trodAll_three hA
  obtain ⟨x, rfl, hx⟩ := open_block (hval 0 22 v0 rfl rfl) h0 (fun p hp => hlt p (by simp [hp]))
  obtain ⟨y, rfl, hy⟩ := open_block (hval 1 22 v1 rfl rfl) h1 (fun p hp => hlt p (by simp [hp]))
  obtain ⟨z, rfl, hz⟩ := open_str Try.underlying9 (hval 2 9 v2 rfl rfl) h2 (fun p hp => hlt p (by simp [hp]))
  exact times_law x y z W hx hy hz
set_option maxRecDepth 100000 in
theorem lifted (os : Os) (started : os.Started) (H : Type) (enc : TypeId × Value → H) :
    ReturnsInHanded {} Try.checked os 3 .any (Rows.gcmTimesSpec.pre6 enc Try.prog Try.f3 Rows.gcmTimesRow.domain false) (Rows.gcmTimesSpec.post enc Try.prog Try.f3 false true false false) :=
  law_lift (C := Try.checked) (tb := 4) (by kernel_rfl) started (by kernel_rfl) Try.func3
    (ChangeSpec.witness6 (enc := enc) (C := Try.checked) false ⟨#[], #[.agg (nums .u8 (natL (Z 16))), .agg (nums .u8 (natL (Z 16))), .string ⟨#[]⟩], []⟩ 8 (by kernel_rfl) (by kernel_rfl) (by kernel_rfl) (by kernel_rfl))
    (by kernel_rfl) (by kernel_rfl) rfl (by kernel_rfl) Try.underlying4 (fun ds h => by match ds, h with | [_, _, _], _ => exact ⟨rfl, rfl, rfl⟩)
    (fun W base args ds ps hval hA hlt => walk W base args ds ps hval hA hlt)
theorem over : Rows.gcmTimesRow.holds Try.pinned (OpenSpec.ofChange Rows.gcmTimesSpec) :=
  OpenClaim.holds_of_wide 3 Try.f3 rfl rfl rfl rfl rfl rfl rfl ⟨rfl, rfl, rfl, rfl, rfl⟩ rfl rfl rfl rfl rfl (by kernel_rfl) Try.func3 (by kernel_rfl)
    (of_decide_eq_true (by kernel_rfl)) (by unfold Func.isWrapper; rw [if_neg (of_decide_eq_false (by kernel_rfl))]; exact ⟨rfl, rfl⟩)
    (fun os started H enc _ => lifted os started H enc)
theorem proved : Rows.GcmTimesSaid := over
#print axioms proved
end Go.Proofs.Ytnnoimikoddbcaa.GcmTimes
