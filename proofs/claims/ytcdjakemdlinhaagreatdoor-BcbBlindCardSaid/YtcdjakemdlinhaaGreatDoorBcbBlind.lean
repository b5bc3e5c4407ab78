/-
 BcbBlind: two bundles that are the same but for the target's data, of one length, are the same when each is sealed by an ideal engine of its own.
 Conditions: none (the listed error is as the program's text lays it: the card ties that).
-/
import Derived.Test.YtcdjakemdlinhaaGreatDoorG14
import Derived.Test.YtcdjakemdlinhaaGreatDoorTie
import Derived.Test.YtcdjakemdlinhaaGreatDoorCards
import Derived.SevenTiedAt
set_option linter.unusedSimpArgs false
set_option linter.unusedVariables false
set_option linter.unusedSectionVars false
namespace Go.Proofs.YtcdjakemdlinhaaGreatDoor.BcbBlind
open Go.ChangeShapes Go.WideShapes Go.ChangeAt Go.RowKit Go.Proofs.YtcdjakemdlinhaaGreatDoor.Sx
set_option maxRecDepth 100000 in
theorem walk (W : World) (base : Nat) (args : Array Value) {H : Type} {enc : TypeId × Value → H} (ds : List (DataW H)) (ps : List MemPlace) (hg : GlobAt W)
  (hval : ∀ (j : Nat) t v, Tryz.f3.params[j]? = some t → args[j]? = some v → Value.okWide Tryz.prog W .any base t v)
  (hA : DataW.TrodAll enc Tryz.prog W 0 (fun _ => true) true Tryz.f3.params.toList args.toList ds ps) (hlt : ∀ p ∈ ps, p.block < W.heap.size) :
  Calls Tryz.prog 3 args W fun e W' => e = .returned (.bool true) ∧ Below W.heap.size W W' := by
 rw [Tryz.params3] at hA hval
 obtain ⟨v0, v1, v2, d0, d1, d2, p0, p1, p2, rfl, rfl, rfl, h0, h1, h2⟩ := trodAll_three hA
 obtain ⟨p, l, a, c, rfl, hp, hl, hc⟩ := Sx.open_bundle (hval 0 29 v0 rfl rfl) h0 (fun p hp => hlt p (by simp [hp]))
 obtain ⟨e, vr, fl, key, nonce, target, id, rfl, he⟩ := Sx.open_way (hval 1 33 v1 rfl rfl) h1 (fun p hp => hlt p (by simp [hp]))
 obtain ⟨other, rfl, _⟩ := open_str Tryz.underlying9 (hval 2 9 v2 rfl rfl) h2 (fun p hp => hlt p (by simp [hp]))
 obtain ⟨eA, hE⟩ := hg
 exact Sx.lBlind_any eA p l a c e vr fl key nonce target id other W (fun _ _ h => h) hE hp he hl hc
set_option maxRecDepth 100000 in
theorem door_met (os : Os) (args : Array Value) : laidMetH Tryz.prog laidL ((World.doorLaid Tryz.prog 400 os).forCall (fun _ _ => 0) ⟨#[], args, []⟩).memory :=
 laidMetH_of_parts3 (fuel := 8) (laidMet_of_run' 8 (by kernel_rfl) (by kernel_rfl)) (by kernel_rfl) (by kernel_rfl)
set_option maxRecDepth 100000 in
theorem lifted (os : Os) (started : os.Started) (H : Type) (enc : TypeId × Value → H) :
  ReturnsInHanded {} Tryz.checked os 3 .any (fun w args => (Rows.bcbBlindSpec.pre enc Tryz.prog Tryz.f3 [] false w args ∧ laidMetH Tryz.prog laidL w) ∧ sizedMet enc Tryz.prog Tryz.f3 (OpenSpec.ofChange Rows.bcbBlindSpec) false w args) (Rows.bcbBlindSpec.post enc Tryz.prog Tryz.f3 false true false false) :=
 law_lift_laid (C := Tryz.checked) (tb := 4) (by kernel_rfl) started (by kernel_rfl) Tryz.func3
  (ChangeSpec.witness_shaped (enc := enc) (C := Tryz.checked) (os := os) (X := fun w _ => laidMetH Tryz.prog laidL w) false (World.doorLaid Tryz.prog 400 os) #[.agg #[.int .u64 0, .int .i64 0, .int .i64 0, .string ⟨#[]⟩, .int .u64 0, .int .u64 0, .int .i64 0, .string ⟨#[]⟩, .int .u64 0, .int .u64 0, .int .i64 0, .string ⟨#[]⟩, .int .u64 0, .int .u64 0, .int .u64 0, .int .u64 0, .int .u64 0, .int .u64 0, .int .u64 0, .slice none 0 0], .agg #[.int .i64 0, .string ⟨#[]⟩, .int .u64 0, .int .u64 0, .int .i64 0, .int .i64 0, .string ⟨#[]⟩, .string ⟨#[]⟩, .int .i64 0, .bool false], .string ⟨#[]⟩] 8 rfl (World.shaped_of_RefB (by kernel_rfl) (by kernel_rfl)) (by kernel_rfl) (by kernel_rfl) (by kernel_rfl) (door_met os _))
  (by kernel_rfl) (by kernel_rfl) rfl (by kernel_rfl) Tryz.underlying4 (fun ds h => by match ds, h with | [_, _, _], _ => exact ⟨rfl, rfl, rfl⟩)
  (fun W base args ds ps hL hval hA hlt => walk W base args ds ps (laid_glob hL) hval hA hlt)
theorem andT {a b : Bool} (ha : a = true) (hb : b = true) : (a && b) = true := by rw [ha, hb]; rfl
set_option maxHeartbeats 16000000 in
theorem closed : joinedFacts Tryz.prog 3 Tryz.f3 Rows.bcbBlindSpec Rows.bcbBlindRow = true := by
 unfold joinedFacts
 repeat' (with_reducible refine andT ?_ ?_)
 all_goals (as_aux_lemma => kernel_rfl)
theorem over : Rows.bcbBlindRow.holds Tryz.pinned (OpenSpec.ofChange Rows.bcbBlindSpec) :=
 OpenClaim.holds_of_wide 3 Tryz.f3 rfl rfl rfl rfl rfl rfl rfl ⟨rfl, rfl, rfl, rfl, rfl⟩ rfl rfl rfl rfl rfl (by kernel_rfl) Tryz.func3 closed
  (of_decide_eq_true (by kernel_rfl)) (by unfold Func.isWrapper; rw [if_neg (of_decide_eq_false (by kernel_rfl))]; exact ⟨rfl, rfl⟩)
  (fun os started H enc _ => lifted os started H enc)
theorem proved : Rows.BcbBlindCardSaid :=
 Claim7.holds_tied_plain_at .later [] [.sentinel] true (true, "162cf932418265295b348462ddf9a643087dcb925c3e69666c5741a7b2464bdc") true
  over (fun _ h => by cases h) (by kernel_rfl) (fun _ h => by cases h) bcbBlind_row_tie rfl ⟨rfl, rfl⟩ (by kernel_rfl) rfl
  (fun f fn hf hfn => by
   obtain rfl : f = 3 := Option.some.inj ((show Tryz.prog.funcNamed "dromond/dromondlaw19.BcbBlind" = some 3 by kernel_rfl).symm.trans hf) |>.symm
   obtain rfl : fn = Tryz.f3 := (Option.some.inj (Tryz.func3.symm.trans hfn)).symm
   exact ⟨by kernel_rfl, fun j t ht => by
    have hm := Array.mem_of_getElem? ht
    have hall : (Tryz.f3.params.toList.all fun u => !Tryz.prog.wantsStandIn u) = true := by kernel_rfl
    exact (show Tryz.prog.wantsStandIn t = false by simpa using List.all_eq_true.1 hall t (by simpa using hm))⟩)
  (by kernel_rfl)
#print axioms proved
end Go.Proofs.YtcdjakemdlinhaaGreatDoor.BcbBlind
