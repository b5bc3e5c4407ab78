/-
  GcmSeals: for all keys, nonces and texts, the sealed text and the tag are the standard's, or the error is returned.
  Conditions: none.
-/
import Derived.Test.YtnnoimikoddbcaaGf15
import Derived.Test.YtnnoimikoddbcaaRef08i
namespace Go.Proofs.Ytnnoimikoddbcaa.GcmSeals
open Go.ChangeShapes Go.WideShapes Go.ChangeAt Go.RowKit Go.Deep Go.Proofs.Ytnnoimikoddbcaa.Gf
set_option maxHeartbeats 1600000 in
set_option maxRecDepth 100000 in
theorem seals_law (k n a t : List UInt8) (w : World) (hk : k.length ≤ maxLen) (hn : n.length ≤ maxLen) (ha : a.length ≤ maxLen) (ht : t.length ≤ maxLen) :
    Calls Try.prog 6 #[.agg #[.string (B k), .string (B n), .string (B a), .string (B t)]] w fun e w' => e = .returned (.bool true) ∧ Below w.heap.size w w' := by
  have H0 := Lib.hid awake_any
  have hf := fun W => few_any k n a t W hk hn ha ht
  by_cases hfew : Few k n a t
  · rw [decide_eq_true hfew] at hf
    have HF := Lib.hid hf
    clear hf
    obtain ⟨hfk, hfn, hfa, hft⟩ := hfew
    have h12 : ∃ (S T : List UInt8) (c : Nat), (∀ W, Calls Try.prog 20 #[.string (B k), .string (B n), .string (B a), .string (B t)] W fun e w' => e = .returned (.tuple #[.string (B S), .string (B T), .int .i64 (c : Int)]) ∧ Below W.heap.size W w') ∧
        (∀ W, Calls Try.prog 21 #[.string (B k), .string (B n), .string (B a), .string (B t)] W fun e w' => e = .returned (.tuple #[.string (B S), .string (B T), .int .i64 (c : Int)]) ∧ Below W.heap.size W w') := by
      by_cases hso : sealOk k n
      · exact ⟨_, _, 0, fun W => Gf.Seal_any k n a t W hso (by omega) (by omega), fun W => Ref08.Seal_any k n a t W hso (by omega) (by omega)⟩
      · exact ⟨_, _, 1, fun W => Gf.Seal_none k n a t W hso, fun W => Ref08.Seal_none k n a t W hso⟩
    obtain ⟨S, T, c, h1, h2⟩ := h12
    have H1 := Lib.hid h1
    have H2 := Lib.hid h2
    clear h1 h2
    go_enter Try.func6, Try.ntmps6
    go_wp2_with fail
    refine Calls.ext (H0.out _) fun u1 => ?_
    go_wp2_with fail
    refine Calls.ext (HF.out _) fun u2 => ?_
    go_wp2_with fail
    refine Calls.ext (H1.out _) fun u3 => ?_
    go_wp2_with fail
    refine Calls.ext (H2.out _) fun u4 => ?_
    go_wp2
    go_ret
    exact ⟨by simp, by ((repeat' (with_reducible first | exact Below.refl _ _ | assumption | refine Below.drew ?_ | refine below_drewN ?_ _ | refine Below.setCell ?_ ?_ _ | refine Below.alloc ?_ ?_ _ | refine Below.ext ?_ ?_ _ | refine Below.trans ?_ (Below.mono ‹_› ?_))) <;> first | omega | (simp; done) | (simp; omega))⟩
  · rw [decide_eq_false hfew] at hf
    have HF := Lib.hid hf
    clear hf hfew
    go_enter Try.func6, Try.ntmps6
    go_wp2_with fail
    refine Calls.ext (H0.out _) fun u1 => ?_
    go_wp2_with fail
    refine Calls.ext (HF.out _) fun u2 => ?_
    go_wp2_with fail
    refine Calls.ext (H0.out _) fun u3 => ?_
    go_wp2
    go_ret
    exact ⟨rfl, by ((repeat' (with_reducible first | exact Below.refl _ _ | assumption | refine Below.drew ?_ | refine below_drewN ?_ _ | refine Below.setCell ?_ ?_ _ | refine Below.alloc ?_ ?_ _ | refine Below.ext ?_ ?_ _ | refine Below.trans ?_ (Below.mono ‹_› ?_))) <;> first | omega | (simp; done) | (simp; omega))⟩
set_option maxRecDepth 100000 in
theorem walk (W : World) (base : Nat) (args : Array Value) {H : Type} {enc : TypeId × Value → H} (ds : List (DataW H)) (ps : List MemPlace)
    (hval : ∀ (j : Nat) t v, Try.f6.params[j]? = some t → args[j]? = some v → Value.okWide Try.prog W .any base t v)
    (hA : DataW.TrodAll enc Try.prog W 0 (fun _ => true) true Try.f6.params.toList args.toList ds ps) (hlt : ∀ p ∈ ps, p.block < W.heap.size) :
    Calls Try.prog 6 args W fun e W' => e = .returned (.bool true) ∧ Below W.heap.size W W' := by
  rw [Try.params6] at hA hval
  obtain ⟨v0, d0, rfl, rfl, h0⟩ := trodAll_one hA
  obtain ⟨k, n, a, t, rfl, hk, hn, ha, ht⟩ := open_in (hval 0 36 v0 rfl rfl) h0 hlt
  exact seals_law k n a t W hk hn ha ht
set_option maxRecDepth 100000 in
theorem lifted (os : Os) (started : os.Started) (H : Type) (enc : TypeId × Value → H) :
    ReturnsInHanded {} Try.checked os 6 .any (Rows.gcmSealsSpec.pre6 enc Try.prog Try.f6 Rows.gcmSealsRow.domain false) (Rows.gcmSealsSpec.post enc Try.prog Try.f6 false true false false) :=
  law_lift (C := Try.checked) (tb := 4) (by kernel_rfl) started (by kernel_rfl) Try.func6
    (ChangeSpec.witness6 (enc := enc) (C := Try.checked) false ⟨#[], #[.agg #[.string ⟨#[]⟩, .string ⟨#[]⟩, .string ⟨#[]⟩, .string ⟨#[]⟩]], []⟩ 8 (by kernel_rfl) (by kernel_rfl) (by kernel_rfl) (by kernel_rfl))
    (by kernel_rfl) (by kernel_rfl) rfl (by kernel_rfl) Try.underlying4 (fun ds h => by match ds, h with | [_], _ => exact ⟨rfl, rfl, rfl⟩)
    (fun W base args ds ps hval hA hlt => walk W base args ds ps hval hA hlt)
theorem over : Rows.gcmSealsRow.holds Try.pinned (OpenSpec.ofChange Rows.gcmSealsSpec) :=
  OpenClaim.holds_of_wide 6 Try.f6 rfl rfl rfl rfl rfl rfl rfl ⟨rfl, rfl, rfl, rfl, rfl⟩ rfl rfl rfl rfl rfl (by kernel_rfl) Try.func6 (by kernel_rfl)
    (of_decide_eq_true (by kernel_rfl)) (by unfold Func.isWrapper; rw [if_neg (of_decide_eq_false (by kernel_rfl))]; exact ⟨rfl, rfl⟩)
    (fun os started H enc _ => lifted os started H enc)
theorem proved : Rows.GcmSealsSaid := over
#print axioms proved
end Go.Proofs.Ytnnoimikoddbcaa.GcmSeals
