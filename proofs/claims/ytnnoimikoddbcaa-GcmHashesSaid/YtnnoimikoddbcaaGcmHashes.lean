/-
  GcmHashes: of all texts the hash is the standard's.
  Conditions: none.
-/
import Derived.Test.YtnnoimikoddbcaaRef08e
import Derived.Test.YtnnoimikoddbcaaGf14
import Derived.Test.YtnnoimikoddbcaaOpen2
namespace Go.Proofs.Ytnnoimikoddbcaa.GcmHashes
open Go.ChangeShapes Go.WideShapes Go.ChangeAt Go.RowKit Go.Deep Go.Proofs.Ytnnoimikoddbcaa.Gf
/-- hashed: likewise, of bytes that may be no block. -/
theorem hashed_any (h t : List UInt8) (w : World) (ht : t.length ≤ 1000000) : Calls Try.prog 18 #[.string (B h), .string (B t)] w fun e w' => e = .returned (.string (B (if h.length = 16 then hashB h [] t else []))) ∧ Below w.heap.size w w' := by
  by_cases hh : h.length = 16
  · have HH : ∀ W, Calls Try.prog 17 #[.string (B h), .string ⟨#[]⟩, .string (B t)] W fun e w' => e = .returned (.string (B (hashB h [] t))) ∧ Below W.heap.size W w' := fun W => Ref08.Hash_any h [] t W hh (by simp) ht
    rw [if_pos hh]
    have hi : (h.length : Int) = 16 := by omega
    go_enter Try.func18, Try.ntmps18
    go_wp2_with fail
    refine Calls.ext (HH _) fun u1 => ?_
    go_wp2
    go_ret
    exact ⟨rfl, by ((repeat' (with_reducible first | exact Below.refl _ _ | assumption | refine Below.drew ?_ | refine below_drewN ?_ _ | refine Below.setCell ?_ ?_ _ | refine Below.alloc ?_ ?_ _ | refine Below.ext ?_ ?_ _ | refine Below.trans ?_ (Below.mono ‹_› ?_))) <;> first | omega | (simp; done) | (simp; omega))⟩
  · rw [if_neg hh]
    have hi : ¬ (h.length : Int) = 16 := by omega
    go_enter Try.func18, Try.ntmps18
    go_wp2
    go_ret
    exact ⟨rfl, by ((repeat' (with_reducible first | exact Below.refl _ _ | assumption | refine Below.drew ?_ | refine below_drewN ?_ _ | refine Below.setCell ?_ ?_ _ | refine Below.alloc ?_ ?_ _ | refine Below.ext ?_ ?_ _ | refine Below.trans ?_ (Below.mono ‹_› ?_))) <;> first | omega | (simp; done) | (simp; omega))⟩
theorem Hash_all (h t : List UInt8) (w : World) (ht : t.length ≤ 1000000) : Calls Try.prog 16 #[.string (B h), .string ⟨#[]⟩, .string (B t)] w fun e w' => e = .returned (.string (B (if h.length = 16 then hashB h [] t else []))) ∧ Below w.heap.size w w' := by
  by_cases hh : h.length = 16
  · rw [if_pos hh]; exact Hash_any h [] t w hh (by simp) ht
  · rw [if_neg hh]; exact Hash_none h [] t w hh
set_option maxHeartbeats 1600000 in
set_option maxRecDepth 100000 in
theorem hashes_law (h a t : List UInt8) (w : World) (hh : h.length = 16) :
    Calls Try.prog 5 #[.agg (nums .u8 (natL h)), .string (B a), .string (B t)] w fun e w' => e = .returned (.bool true) ∧ Below w.heap.size w w' := by
  have H0 := Lib.hid awake_any
  by_cases h1 : (a.length : Int) ≤ 200
  · by_cases h2 : (t.length : Int) ≤ 200
    · have H1 := Lib.hid fun W => Hash_any h a t W hh (by omega) (by omega)
      have H2 := Lib.hid fun W => Ref08.Hash_any h a t W hh (by omega) (by omega)
      have H3 := Lib.hid fun W => Hash_all t a W (by omega)
      have H4 := Lib.hid fun W => hashed_any t a W (by omega)
      generalize hashB h a t = R1 at *
      generalize (if t.length = 16 then hashB t [] a else []) = R2 at *
      have hw1 : ∀ u b n, (ext (w.alloc (.cells (nums .u8 (natL h)) 22)) u).heap[b]? = some (.cells (nums .u8 (natL n)) 22 (0, 0)) → n.length = 16 →
          (convert 24 9 (.slice (some ⟨b, 0, none⟩) 16 16)).run Try.prog (ext (w.alloc (.cells (nums .u8 (natL h)) 22)) u) = .ok (.string (B n)) (ext (w.alloc (.cells (nums .u8 (natL h)) 22)) u) := fun u b n hb hn => by
        have h := string_of (P := Try.prog) _ 24 9 5 ⟨b, 0, none⟩ 16 16 (natL n) Try.underlying24 Try.underlying5 Try.underlying9 (by rw [natL_length, hn]) (fun j hj => by
          have e1 : (⟨b, 0, none⟩ : Addr).add j = ⟨b, j, none⟩ := by simp [Addr.add]; omega
          rw [e1, cell_of_row _ b j _ _ _ hb, nums_getD .u8 (by rw [natL_length, hn]; exact hj)])
        rw [NB_natL] at h
        exact h
      have HW1 := Lib.hid hw1
      clear hw1
      go_enter Try.func5, Try.ntmps5
      go_wp2_with fail
      refine Calls.ext (H0.out _) fun u1 => ?_
      have hcx := HW1.out u1 w.heap.size h (heap_ext (heap_at (by simp))) hh
      go_wp2_with fail
      clear hcx
      refine Calls.ext (H1.out _) fun u2 => ?_
      go_wp2_with fail
      refine Calls.ext (H2.out _) fun u3 => ?_
      go_wp2_with fail
      refine Calls.ext (H3.out _) fun u4 => ?_
      go_wp2_with fail
      refine Calls.ext (H4.out _) fun u5 => ?_
      go_wp2
      go_ret
      exact ⟨rfl, by ((repeat' (with_reducible first | exact Below.refl _ _ | assumption | refine Below.drew ?_ | refine below_drewN ?_ _ | refine Below.setCell ?_ ?_ _ | refine Below.alloc ?_ ?_ _ | refine Below.ext ?_ ?_ _ | refine Below.trans ?_ (Below.mono ‹_› ?_))) <;> first | omega | (simp; done) | (simp; omega))⟩
    · go_enter Try.func5, Try.ntmps5
      go_wp2_with fail
      refine Calls.ext (H0.out _) fun u1 => ?_
      go_wp2_with fail
      refine Calls.ext (H0.out _) fun u2 => ?_
      go_wp2
      go_ret
      exact ⟨rfl, by ((repeat' (with_reducible first | exact Below.refl _ _ | assumption | refine Below.drew ?_ | refine below_drewN ?_ _ | refine Below.setCell ?_ ?_ _ | refine Below.alloc ?_ ?_ _ | refine Below.ext ?_ ?_ _ | refine Below.trans ?_ (Below.mono ‹_› ?_))) <;> first | omega | (simp; done) | (simp; omega))⟩
  · go_enter Try.func5, Try.ntmps5
    go_wp2_with fail
    refine Calls.ext (H0.out _) fun u1 => ?_
    go_wp2_with fail
    refine Calls.ext (H0.out _) fun u2 => ?_
    go_wp2
    go_ret
    exact ⟨rfl, by ((repeat' (with_reducible first | exact Below.refl _ _ | assumption | refine Below.drew ?_ | refine below_drewN ?_ _ | refine Below.setCell ?_ ?_ _ | refine Below.alloc ?_ ?_ _ | refine Below.ext ?_ ?_ _ | refine Below.trans ?_ (Below.mono ‹_› ?_))) <;> first | omega | (simp; done) | (simp; omega))⟩
set_option maxRecDepth 100000 in
theorem walk (W : World) (base : Nat) (args : Array Value) {H : Type} {enc : TypeId × Value → H} (ds : List (DataW H)) (ps : List MemPlace)
    (hval : ∀ (j : Nat) t v, Try.f5.params[j]? = some t → args[j]? = some v → Value.okWide Try.prog W .any base t v)
    (hA : DataW.TrodAll enc Try.prog W 0 (fun _ => true) true Try.f5.params.toList args.toList ds ps) (hlt : ∀ p ∈ ps, p.block < W.heap.size) :
    Calls Try.prog 5 args W fun e W' => e = .returned (.bool true) ∧ Below W.heap.size W W' := by
  rw [Try.params5] at hA hval
  obtain ⟨v0, v1, v2, d0, d1, d2, p0, p1, p2, rfl, rfl, rfl, h0, h1, h2⟩ := trodAll_three hA
  obtain ⟨x, rfl, hx⟩ := open_block (hval 0 22 v0 rfl rfl) h0 (fun p hp => hlt p (by simp [hp]))
  obtain ⟨a, rfl, _⟩ := open_str Try.underlying9 (hval 1 9 v1 rfl rfl) h1 (fun p hp => hlt p (by simp [hp]))
  obtain ⟨t, rfl, _⟩ := open_str Try.underlying9 (hval 2 9 v2 rfl rfl) h2 (fun p hp => hlt p (by simp [hp]))
  exact hashes_law x a t W hx
set_option maxRecDepth 100000 in
theorem lifted (os : Os) (started : os.Started) (H : Type) (enc : TypeId × Value → H) :
    ReturnsInHanded {} Try.checked os 5 .any (Rows.gcmHashesSpec.pre6 enc Try.prog Try.f5 Rows.gcmHashesRow.domain false) (Rows.gcmHashesSpec.post enc Try.prog Try.f5 false true false false) :=
  law_lift (C := Try.checked) (tb := 4) (by kernel_rfl) started (by kernel_rfl) Try.func5
    (ChangeSpec.witness6 (enc := enc) (C := Try.checked) false ⟨#[], #[.agg (nums .u8 (natL (Z 16))), .string ⟨#[]⟩, .string ⟨#[]⟩], []⟩ 8 (by kernel_rfl) (by kernel_rfl) (by kernel_rfl) (by kernel_rfl))
    (by kernel_rfl) (by kernel_rfl) rfl (by kernel_rfl) Try.underlying4 (fun ds h => by match ds, h with | [_, _, _], _ => exact ⟨rfl, rfl, rfl⟩)
    (fun W base args ds ps hval hA hlt => walk W base args ds ps hval hA hlt)
theorem over : Rows.gcmHashesRow.holds Try.pinned (OpenSpec.ofChange Rows.gcmHashesSpec) :=
  OpenClaim.holds_of_wide 5 Try.f5 rfl rfl rfl rfl rfl rfl rfl ⟨rfl, rfl, rfl, rfl, rfl⟩ rfl rfl rfl rfl rfl (by kernel_rfl) Try.func5 (by kernel_rfl)
    (of_decide_eq_true (by kernel_rfl)) (by unfold Func.isWrapper; rw [if_neg (of_decide_eq_false (by kernel_rfl))]; exact ⟨rfl, rfl⟩)
    (fun os started H enc _ => lifted os started H enc)
theorem proved : Rows.GcmHashesSaid := over
#print axioms proved
end Go.Proofs.Ytnnoimikoddbcaa.GcmHashes
