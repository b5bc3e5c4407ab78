/-
  Several texts in one: BibOnlyT.
  Conditions: named at each.
-/
import Derived.Test.YtcdjakemdlinhaaGreatDoorG14
import Derived.Test.YtcdjakemdlinhaaGreatDoorCards
import Derived.SevenTiedAt
set_option maxHeartbeats 16000000
set_option linter.unusedSimpArgs false
set_option linter.unusedVariables false
set_option linter.unusedSectionVars false
namespace Go.Proofs.YtcdjakemdlinhaaGreatDoor.BibOnly
open Go.ChangeShapes Go.WideShapes Go.ChangeAt Go.RowKit Go.Proofs.YtcdjakemdlinhaaGreatDoor.Sx
set_option maxRecDepth 100000 in
theorem walk (W : World) (base : Nat) (args : Array Value) {H : Type} {enc : TypeId × Value → H} (ds : List (DataW H)) (ps : List MemPlace) (hg : aLV W)
  (hval : ∀ (j : Nat) t v, Tryz.f4.params[j]? = some t → args[j]? = some v → Value.okWide Tryz.prog W .any base t v)
  (hA : DataW.TrodAll enc Tryz.prog W 0 (fun _ => true) true Tryz.f4.params.toList args.toList ds ps) (hlt : ∀ p ∈ ps, p.block < W.heap.size) :
  Calls Tryz.prog 4 args W fun e W' => e = .returned (.bool true) ∧ Below W.heap.size W W' := by
 rw [Tryz.params4] at hA hval
 obtain ⟨v0, v1, v2, d0, d1, d2, p0, p1, p2, rfl, rfl, rfl, h0, h1, h2⟩ := trodAll_three hA
 obtain ⟨p, l, a, c, q, m, d, g, rfl, hp, hl, hq, hm, hmg⟩ := Sx.aKW (hval 0 47 v0 rfl rfl) h0 (fun p hp => hlt p (by simp [hp]))
 obtain ⟨e, vr, fl, key, ts, aS, cS, id, rfl, he, hS, hcS⟩ := Sx.aKg (hval 1 50 v1 rfl rfl) h1 (fun p hp => hlt p (by simp [hp]))
 obtain ⟨other, rfl, _⟩ := aKX Tryz.underlying9 (hval 2 9 v2 rfl rfl) h2 (fun p hp => hlt p (by simp [hp]))
 obtain ⟨eA, hE⟩ := hg
 exact Sx.aEr eA p l a c q m d g e vr fl key ts aS cS id other W (fun _ _ h => h) hE hp he hl hq hm hmg hS hcS
set_option maxRecDepth 100000 in
theorem aLr (os : Os) (args : Array Value) : laidMetH Tryz.prog aLc ((World.doorLaid Tryz.prog 400 os).forCall (fun _ _ => 0) ⟨#[], args, []⟩).memory :=
 laidMetH_of_parts3 (fuel := 8) (laidMet_of_run' 8 kR kR) kR kR
set_option maxRecDepth 100000 in
theorem lifted (os : Os) (started : os.Started) (H : Type) (enc : TypeId × Value → H) :
  ReturnsInHanded {} Tryz.checked os 4 .any (fun w args => (Rows.bibOnlySpec.pre enc Tryz.prog Tryz.f4 [] false w args ∧ laidMetH Tryz.prog aLc w) ∧ sizedMet enc Tryz.prog Tryz.f4 (OpenSpec.ofChange Rows.bibOnlySpec) false w args) (Rows.bibOnlySpec.post enc Tryz.prog Tryz.f4 false true false false) :=
 aC7 (C := Tryz.checked) (tb := 4) kR started kR Tryz.func4
  (ChangeSpec.witness_shaped (enc := enc) (C := Tryz.checked) (os := os) (X := fun w _ => laidMetH Tryz.prog aLc w) false (World.doorLaid Tryz.prog 400 os) #[.agg #[.int .u64 0, .int .i64 0, .int .i64 0, .string ⟨#[]⟩, .int .u64 0, .int .u64 0, .int .i64 0, .string ⟨#[]⟩, .int .u64 0, .int .u64 0, .int .i64 0, .string ⟨#[]⟩, .int .u64 0, .int .u64 0, .int .u64 0, .int .u64 0, .int .u64 0, .int .u64 0, .int .u64 0, .slice none 0 0, .int .u64 0, .int .i64 0, .int .i64 0, .string ⟨#[]⟩, .int .u64 0, .int .u64 0, .int .i64 0, .string ⟨#[]⟩, .int .u64 0, .int .u64 0, .int .i64 0, .string ⟨#[]⟩, .int .u64 0, .int .u64 0, .int .u64 0, .int .u64 0, .int .u64 0, .int .u64 0, .int .u64 0, .slice none 0 0], .agg #[.int .i64 0, .string ⟨#[]⟩, .int .u64 0, .int .u64 0, .int .i64 0, .int .i64 0, .string ⟨#[]⟩, .slice none 0 0, .bool false], .string ⟨#[]⟩] 8 rfl (World.shaped_of_RefB kR kR) kR kR kR (aLr os _))
  kR kR rfl kR Tryz.underlying4 (fun ds h => by match ds, h with | [_, _, _], _ => exact ⟨rfl, rfl, rfl⟩)
  (fun W base args ds ps hL hval hA hlt => walk W base args ds ps (aI3 hL) hval hA hlt)
theorem aOF {a b : Bool} (ha : a = true) (hb : b = true) : (a && b) = true := by rw [ha, hb]; rfl
set_option maxHeartbeats 16000000 in
theorem closed : joinedFacts Tryz.prog 4 Tryz.f4 Rows.bibOnlySpec Rows.bibOnlyRow = true := by
 unfold joinedFacts
 repeat' (with_reducible refine aOF ?_ ?_)
 all_goals (as_aux_lemma => kernel_rfl)
theorem over : Rows.bibOnlyRow.holds Tryz.pinned (OpenSpec.ofChange Rows.bibOnlySpec) :=
 OpenClaim.holds_of_wide 4 Tryz.f4 rfl rfl rfl rfl rfl rfl rfl ⟨rfl, rfl, rfl, rfl, rfl⟩ rfl rfl rfl rfl rfl kR Tryz.func4 closed
  (of_decide_eq_true kR) (by unfold Func.isWrapper; rw [if_neg (of_decide_eq_false kR)]; exact ⟨rfl, rfl⟩)
  (fun os started H enc _ => lifted os started H enc)
end Go.Proofs.YtcdjakemdlinhaaGreatDoor.BibOnly
