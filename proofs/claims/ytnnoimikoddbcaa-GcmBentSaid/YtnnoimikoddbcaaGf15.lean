/-
  few: of a size that is looked at. The struct 'In', opened.
  Conditions: none.
-/
import Derived.Test.YtnnoimikoddbcaaGf14
import Derived.Test.YtnnoimikoddbcaaOpen2
namespace Go.Proofs.Ytnnoimikoddbcaa.Gf
open Go.ChangeShapes Go.WideShapes Go.ChangeAt Go.RowKit Go.Deep
def inV (k n a t : List UInt8) : Value := .agg #[.string (B k), .string (B n), .string (B a), .string (B t)]
def Few (k n a t : List UInt8) : Prop := k.length ≤ 100 ∧ n.length ≤ 100 ∧ a.length ≤ 200 ∧ t.length ≤ 300
instance (k n a t : List UInt8) : Decidable (Few k n a t) := by unfold Few; infer_instance
theorem few_any (k n a t : List UInt8) (w : World) (_hk : k.length ≤ maxLen) (_hn : n.length ≤ maxLen) (_ha : a.length ≤ maxLen) (_ht : t.length ≤ maxLen) :
    Calls Try.prog 19 #[.agg #[.string (B k), .string (B n), .string (B a), .string (B t)]] w fun e w' => e = .returned (.bool (decide (Few k n a t))) ∧ Below w.heap.size w w' := by
  by_cases h1 : (k.length : Int) ≤ 100
  · by_cases h2 : (n.length : Int) ≤ 100
    · by_cases h3 : (a.length : Int) ≤ 200
      · by_cases h4 : (t.length : Int) ≤ 300
        · have hd : decide (Few k n a t) = true := decide_eq_true ⟨by omega, by omega, by omega, by omega⟩
          rw [hd]
          clear hd
          go_enter Try.func19, Try.ntmps19
          go_wp2
          go_ret
          exact ⟨rfl, by ((repeat' (with_reducible first | exact Below.refl _ _ | assumption | refine Below.drew ?_ | refine below_drewN ?_ _ | refine Below.setCell ?_ ?_ _ | refine Below.alloc ?_ ?_ _ | refine Below.ext ?_ ?_ _ | refine Below.trans ?_ (Below.mono ‹_› ?_))) <;> first | omega | (simp; done) | (simp; omega))⟩
        · have hd : decide (Few k n a t) = false := decide_eq_false (fun h => by have := h.1; have := h.2.1; have := h.2.2.1; have := h.2.2.2; omega)
          rw [hd]
          clear hd
          go_enter Try.func19, Try.ntmps19
          go_wp2
          go_ret
          exact ⟨by simp, by ((repeat' (with_reducible first | exact Below.refl _ _ | assumption | refine Below.drew ?_ | refine below_drewN ?_ _ | refine Below.setCell ?_ ?_ _ | refine Below.alloc ?_ ?_ _ | refine Below.ext ?_ ?_ _ | refine Below.trans ?_ (Below.mono ‹_› ?_))) <;> first | omega | (simp; done) | (simp; omega))⟩
      · have hd : decide (Few k n a t) = false := decide_eq_false (fun h => by have := h.1; have := h.2.1; have := h.2.2.1; have := h.2.2.2; omega)
        rw [hd]
        clear hd
        go_enter Try.func19, Try.ntmps19
        go_wp2
        go_ret
        exact ⟨rfl, by ((repeat' (with_reducible first | exact Below.refl _ _ | assumption | refine Below.drew ?_ | refine below_drewN ?_ _ | refine Below.setCell ?_ ?_ _ | refine Below.alloc ?_ ?_ _ | refine Below.ext ?_ ?_ _ | refine Below.trans ?_ (Below.mono ‹_› ?_))) <;> first | omega | (simp; done) | (simp; omega))⟩
    · have hd : decide (Few k n a t) = false := decide_eq_false (fun h => by have := h.1; have := h.2.1; have := h.2.2.1; have := h.2.2.2; omega)
      rw [hd]
      clear hd
      go_enter Try.func19, Try.ntmps19
      go_wp2
      go_ret
      exact ⟨rfl, by ((repeat' (with_reducible first | exact Below.refl _ _ | assumption | refine Below.drew ?_ | refine below_drewN ?_ _ | refine Below.setCell ?_ ?_ _ | refine Below.alloc ?_ ?_ _ | refine Below.ext ?_ ?_ _ | refine Below.trans ?_ (Below.mono ‹_› ?_))) <;> first | omega | (simp; done) | (simp; omega))⟩
  · have hd : decide (Few k n a t) = false := decide_eq_false (fun h => by have := h.1; have := h.2.1; have := h.2.2.1; have := h.2.2.2; omega)
    rw [hd]
    clear hd
    go_enter Try.func19, Try.ntmps19
    go_wp2
    go_ret
    exact ⟨rfl, by ((repeat' (with_reducible first | exact Below.refl _ _ | assumption | refine Below.drew ?_ | refine below_drewN ?_ _ | refine Below.setCell ?_ ?_ _ | refine Below.alloc ?_ ?_ _ | refine Below.ext ?_ ?_ _ | refine Below.trans ?_ (Below.mono ‹_› ?_))) <;> first | omega | (simp; done) | (simp; omega))⟩
set_option maxRecDepth 100000 in
theorem open_in {H : Type} {enc : TypeId × Value → H} {W : World} {base : Nat} {v0 : Value} {d0 : DataW H} {p0 : List MemPlace} (hv : Value.okWide Try.prog W .any base 36 v0)
    (hr : DataW.Trod enc Try.prog W 0 (fun _ => true) true 36 v0 d0 p0) (hlt : ∀ p ∈ p0, p.block < W.heap.size) :
    ∃ k n a t : List UInt8, v0 = .agg #[.string (B k), .string (B n), .string (B a), .string (B t)] ∧ k.length ≤ maxLen ∧ n.length ≤ maxLen ∧ a.length ≤ maxLen ∧ t.length ≤ maxLen := by
  obtain ⟨cs, rfl, c0, _, rfl, h0, c1, _, rfl, h1, c2, _, rfl, h2, c3, _, rfl, h3, rfl⟩ := open_flat [9, 9, 9, 9] hv hr hlt (by kernel_rfl) (by kernel_rfl) (by kernel_rfl)
  obtain ⟨k, rfl, hk⟩ := h0.str Try.underlying9
  obtain ⟨n, rfl, hn⟩ := h1.str Try.underlying9
  obtain ⟨a, rfl, ha⟩ := h2.str Try.underlying9
  obtain ⟨t, rfl, ht⟩ := h3.str Try.underlying9
  exact ⟨k, n, a, t, rfl, hk, hn, ha, ht⟩
end Go.Proofs.Ytnnoimikoddbcaa.Gf
