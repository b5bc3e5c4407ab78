/-
  The real engine: the walks of its methods, whatever sha's tables hold.
  Conditions: named at each.
-/
import Derived.Test.YtlbpodddokhmaaaGreatEngY
import Derived.Test.YtlbpodddokhmaaaGreatHmOne
namespace Go.Proofs.YtlbpodddokhmaaaGreat.EngR
open Go.ChangeShapes Go.WideShapes Go.ChangeAt Go.RowKit Go.Deep Go.Proofs.YtlbpodddokhmaaaGreat.Eng
open Go.Proofs.YtlbpodddokhmaaaGreat.Sha (GlobAt)
open Go.Proofs.YtlbpodddokhmaaaGreat.Hm (hmacB)
theorem nil_ahead_rsign (n : Nat) (w : World) : (nilAhead (n + 1) 51 (.agg #[]) "dromond/engine.sign").run Tryz.prog w = .ok (some false) w := by kernel_rfl
theorem method_rsign (n : Nat) (w : World) : (method (n + 1) 51 (.agg #[]) "dromond/engine.sign").run Tryz.prog w = .ok (78, .agg #[]) w := by kernel_rfl
theorem nil_ahead_rholds (n : Nat) (w : World) : (nilAhead (n + 1) 51 (.agg #[]) "dromond/engine.holds").run Tryz.prog w = .ok (some false) w := by kernel_rfl
theorem method_rholds (n : Nat) (w : World) : (method (n + 1) 51 (.agg #[]) "dromond/engine.holds").run Tryz.prog w = .ok (75, .agg #[]) w := by kernel_rfl
set_option maxRecDepth 100000 in
theorem rsign_any [Inhabited Go.Proofs.YtlbpodddokhmaaaGreat.Sha.Tabs] (vr : Int) (size : Nat) (key t : List UInt8) (w : World) (hg : GlobAt w) (hz : Eng.bits vr = (size : Int)) (h : Hm.Good size) (hk : key.length ≤ 1000000) (ht : t.length ≤ 900000) :
    Calls Tryz.prog 78 #[.agg #[], .int .i64 vr, .string (B key), .string (B t)] w fun e w' => e = .returned (.string (B (hmacB size key t))) ∧ Below w.heap.size w w' := by
  have hB := fun W => Eng.bits_any vr W
  rw [hz] at hB
  have HB := Lib.hid hB
  have HS := Lib.hid fun b W hW hc => Hm.hmac_one size key t b W h hW hk ht hc
  have HG := Lib.hid fun W (hb : Below w.heap.size w W) => hg.below hb
  generalize hmacB size key t = tag at *
  clear hg hz h hk ht hB
  go_enter Tryz.func78, Tryz.ntmps78
  go_wp2_with fail
  refine (HB.out _).mono ?_
  rintro _ _ ⟨rfl, rfl⟩
  go_wp2_with fail
  refine (HS.out _ _ (HG.out _ (by ((repeat' (with_reducible first | exact Below.refl _ _ | assumption | refine Below.drew ?_ | refine below_drewN ?_ _ | refine Below.setCell ?_ ?_ _ | refine Below.alloc ?_ ?_ _ | refine Below.ext ?_ ?_ _ | refine Below.trans ?_ (Below.mono ‹_› ?_))) <;> first | omega | (simp; done) | (simp; omega)))) (by go_simp)).mono ?_
  rintro _ W1 ⟨rfl, hb⟩
  go_wp2
  go_ret
  exact ⟨rfl, by ((repeat' (with_reducible first | exact Below.refl _ _ | assumption | refine Below.drew ?_ | refine below_drewN ?_ _ | refine Below.setCell ?_ ?_ _ | refine Below.alloc ?_ ?_ _ | refine Below.ext ?_ ?_ _ | refine Below.trans ?_ (Below.mono ‹_› ?_))) <;> first | omega | (simp; done) | (simp; omega))⟩
theorem same_self (tag : List UInt8) (W : World) (h : tag.length ≤ 1000000) : Calls Tryz.prog 79 #[.string (B tag), .string (B tag)] W fun e w' => e = .returned (.bool true) ∧ Below W.heap.size W w' :=
  (Hm.Same_any tag tag W h h).mono fun e w' ⟨h1, h2⟩ => ⟨by rw [h1]; simp, h2⟩
set_option maxRecDepth 100000 in
theorem rholds_any [Inhabited Go.Proofs.YtlbpodddokhmaaaGreat.Sha.Tabs] (vr : Int) (size : Nat) (key t : List UInt8) (w : World) (hg : GlobAt w) (hz : Eng.bits vr = (size : Int)) (h : Hm.Good size) (hk : key.length ≤ 1000000) (ht : t.length ≤ 900000) :
    Calls Tryz.prog 75 #[.agg #[], .int .i64 vr, .string (B key), .string (B t), .string (B (hmacB size key t))] w fun e w' => e = .returned (.bool true) ∧ Below w.heap.size w w' := by
  have HS := Lib.hid fun W hW => rsign_any vr size key t W hW hz h hk ht
  have HG := Lib.hid fun W (hb : Below w.heap.size w W) => hg.below hb
  have HE := Lib.hid fun W => same_self (hmacB size key t) W (by rw [Hm.hmacB_length _ _ _ h]; rcases h with rfl | rfl | rfl <;> decide)
  generalize hmacB size key t = tag at *
  clear hg hz h hk ht
  go_enter Tryz.func75, Tryz.ntmps75
  go_wp2_with fail
  refine (HS.out _ (HG.out _ (by ((repeat' (with_reducible first | exact Below.refl _ _ | assumption | refine Below.drew ?_ | refine below_drewN ?_ _ | refine Below.setCell ?_ ?_ _ | refine Below.alloc ?_ ?_ _ | refine Below.ext ?_ ?_ _ | refine Below.trans ?_ (Below.mono ‹_› ?_))) <;> first | omega | (simp; done) | (simp; omega))))).mono ?_
  rintro _ W1 ⟨rfl, hb1⟩
  have hw : Below w.heap.size w W1 := by ((repeat' (with_reducible first | exact Below.refl _ _ | assumption | refine Below.drew ?_ | refine below_drewN ?_ _ | refine Below.setCell ?_ ?_ _ | refine Below.alloc ?_ ?_ _ | refine Below.ext ?_ ?_ _ | refine Below.trans ?_ (Below.mono ‹_› ?_))) <;> first | omega | (simp; done) | (simp; omega))
  clear hb1
  go_wp2_with fail
  refine (HE.out _).mono ?_
  rintro _ W2 ⟨rfl, hb2⟩
  go_wp2
  go_ret
  exact ⟨rfl, hw.trans (hb2.mono hw.size)⟩
set_option maxRecDepth 100000 in
theorem RSign_any [Inhabited Go.Proofs.YtlbpodddokhmaaaGreat.Sha.Tabs] (eb : Nat) (vr : Int) (size : Nat) (key t : List UInt8) (w : World) (he : w.cell? ⟨eb, 0, none⟩ = some (.iface 51 (.agg #[]))) (hg : GlobAt w) (hz : Eng.bits vr = (size : Int)) (h : Hm.Good size) (hk : key.isEmpty = false) (hl : (key.length : Int) ≤ 64) (ht : t.length ≤ 900000) :
    Calls Tryz.prog 10 #[.pointer (some ⟨eb, 0, none⟩), .int .i64 vr, .string (B key), .string (B t)] w fun e w' => e = .returned (.tuple #[.string (B (hmacB size key t)), .int .i64 0]) ∧ Below w.heap.size w w' := by
  have h1 := nil_ahead_rsign
  have h2 := method_rsign
  have HS := Lib.hid fun W => EngX.signs_any vr key W (by rw [hz]; rcases h with rfl | rfl | rfl <;> decide) hk hl
  have HI := Lib.hid (rsign_any vr size key t w hg hz h (by omega) ht)
  generalize hmacB size key t = tag at *
  clear hg hz h ht hk hl
  go_enter Tryz.func10, Tryz.ntmps10
  go_wp2_with fail
  refine (HS.out _).mono ?_
  rintro _ _ ⟨rfl, rfl⟩
  go_wp2_with fail
  refine HI.out.mono ?_
  rintro _ W1 ⟨rfl, hb⟩
  go_wp2
  go_ret2
  exact ⟨rfl, hb⟩
set_option maxRecDepth 100000 in
theorem RHolds_any [Inhabited Go.Proofs.YtlbpodddokhmaaaGreat.Sha.Tabs] (eb : Nat) (vr : Int) (size : Nat) (key t : List UInt8) (w : World) (he : w.cell? ⟨eb, 0, none⟩ = some (.iface 51 (.agg #[]))) (hg : GlobAt w) (hz : Eng.bits vr = (size : Int)) (h : Hm.Good size) (hk : key.isEmpty = false) (hl : (key.length : Int) ≤ 64) (ht : t.length ≤ 900000) :
    Calls Tryz.prog 12 #[.pointer (some ⟨eb, 0, none⟩), .int .i64 vr, .string (B key), .string (B t), .string (B (hmacB size key t))] w fun e w' => e = .returned (.int .i64 0) ∧ Below w.heap.size w w' := by
  have h1 := nil_ahead_rholds
  have h2 := method_rholds
  have HS := Lib.hid fun W => EngX.signs_any vr key W (by rw [hz]; rcases h with rfl | rfl | rfl <;> decide) hk hl
  have HI := Lib.hid (rholds_any vr size key t w hg hz h (by omega) ht)
  generalize hmacB size key t = tag at *
  clear hg hz h ht hk hl
  go_enter Tryz.func12, Tryz.ntmps12
  go_wp2_with fail
  refine (HS.out _).mono ?_
  rintro _ _ ⟨rfl, rfl⟩
  go_wp2_with fail
  refine HI.out.mono ?_
  rintro _ W1 ⟨rfl, hb⟩
  go_wp2
  go_ret
  exact ⟨rfl, hb⟩
end Go.Proofs.YtlbpodddokhmaaaGreat.EngR
