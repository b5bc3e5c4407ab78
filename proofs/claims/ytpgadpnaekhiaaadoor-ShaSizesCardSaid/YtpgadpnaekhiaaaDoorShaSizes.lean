/-
  ShaSizes: Block and Size return the stated numbers for any size; for other sizes there is no digest.
  Conditions: none (the package's two tables are as the program's text lays them: the card ties that).
-/
import Derived.Test.YtpgadpnaekhiaaaDoorShaS
import Derived.Test.YtpgadpnaekhiaaaDoorTie
import Derived.Test.YtpgadpnaekhiaaaDoorCards
import Derived.SevenTiedAt
namespace Go.Proofs.YtpgadpnaekhiaaaDoor.ShaSizes
open Go.ChangeShapes Go.WideShapes Go.ChangeAt Go.RowKit Go.Deep
open Go.Proofs.YtpgadpnaekhiaaaDoor.Sha (GlobAt Other awake_any)
set_option maxRecDepth 100000 in
theorem sizes_law (x : Int) (w : World) (hg : GlobAt w) : Calls Tryd.prog 10 #[.int .i64 x] w fun e w' => e = .returned (.bool true) ∧ Below w.heap.size w w' := by
  have H0 := Lib.hid awake_any
  have HG := Lib.hid hg
  clear hg
  by_cases h256 : x = 256
  · subst h256
    have HB := Lib.hid (show ∀ W, Calls Tryd.prog 20 #[.int .i64 256] W fun e w' => e = .returned (.int .i64 64) ∧ W = w' from fun W => Sha32.Block_any 256 W Sha.ok256)
    have HZ := Lib.hid (show ∀ W, Calls Tryd.prog 21 #[.int .i64 256] W fun e w' => e = .returned (.int .i64 32) ∧ W = w' from fun W => Sha32.Size_any 256 W Sha.ok256)
    have HS := Lib.hid (show ∀ W, GlobAt W → Calls Tryd.prog 19 #[.int .i64 256, .string ⟨#[97]⟩] W fun e w' => e = .returned (.string (B (Sha32.sumB 256 0 [97]))) ∧ Below W.heap.size W w' from fun W h => Sha.Sum_256 [97] W h (by simp))
    have hl : (Sha32.sumB 256 0 [97]).length = 32 := Sha32.sumB_length 256 0 [97] (by omega)
    generalize Sha32.sumB 256 0 [97] = r at *
    go_enter Tryd.func10, Tryd.ntmps10
    go_wp2_with fail
    refine Calls.ext (H0.out _) fun u => ?_
    go_wp2_with fail
    refine Calls.mono (HB.out _) ?_
    rintro _ _ ⟨rfl, rfl⟩
    go_wp2_with fail
    refine Calls.mono (HZ.out _) ?_
    rintro _ _ ⟨rfl, rfl⟩
    go_wp2_with fail
    refine Calls.ext (HS.out _ (HG.out.below (ext_below _ _))) fun u2 => ?_
    go_wp2
    go_ret
    exact ⟨by simp [hl], by ((repeat' (with_reducible first | exact Below.refl _ _ | assumption | refine Below.drew ?_ | refine below_drewN ?_ _ | refine Below.setCell ?_ ?_ _ | refine Below.alloc ?_ ?_ _ | refine Below.ext ?_ ?_ _ | refine Below.trans ?_ (Below.mono ‹_› ?_))) <;> first | omega | (simp; done) | (simp; omega))⟩
  by_cases h384 : x = 384
  · subst h384
    have HB := Lib.hid (show ∀ W, Calls Tryd.prog 20 #[.int .i64 384] W fun e w' => e = .returned (.int .i64 128) ∧ W = w' from fun W => Sha64.Block_any 384 W Sha.ok384)
    have HZ := Lib.hid (show ∀ W, Calls Tryd.prog 21 #[.int .i64 384] W fun e w' => e = .returned (.int .i64 48) ∧ W = w' from fun W => Sha64.Size_any 384 W Sha.ok384)
    have HS := Lib.hid (show ∀ W, GlobAt W → Calls Tryd.prog 19 #[.int .i64 384, .string ⟨#[97]⟩] W fun e w' => e = .returned (.string (B (Sha64.sumB 384 1 [97]))) ∧ Below W.heap.size W w' from fun W h => Sha.Sum_384 [97] W h (by simp))
    have hl : (Sha64.sumB 384 1 [97]).length = 48 := Sha64.sumB_length 384 1 [97] (by omega)
    generalize Sha64.sumB 384 1 [97] = r at *
    go_enter Tryd.func10, Tryd.ntmps10
    go_wp2_with fail
    refine Calls.ext (H0.out _) fun u => ?_
    go_wp2_with fail
    refine Calls.mono (HB.out _) ?_
    rintro _ _ ⟨rfl, rfl⟩
    go_wp2_with fail
    refine Calls.mono (HZ.out _) ?_
    rintro _ _ ⟨rfl, rfl⟩
    go_wp2_with fail
    refine Calls.ext (HS.out _ (HG.out.below (ext_below _ _))) fun u2 => ?_
    go_wp2
    go_ret
    exact ⟨by simp [hl], by ((repeat' (with_reducible first | exact Below.refl _ _ | assumption | refine Below.drew ?_ | refine below_drewN ?_ _ | refine Below.setCell ?_ ?_ _ | refine Below.alloc ?_ ?_ _ | refine Below.ext ?_ ?_ _ | refine Below.trans ?_ (Below.mono ‹_› ?_))) <;> first | omega | (simp; done) | (simp; omega))⟩
  by_cases h512 : x = 512
  · subst h512
    have HB := Lib.hid (show ∀ W, Calls Tryd.prog 20 #[.int .i64 512] W fun e w' => e = .returned (.int .i64 128) ∧ W = w' from fun W => Sha64.Block_any 512 W Sha.ok512)
    have HZ := Lib.hid (show ∀ W, Calls Tryd.prog 21 #[.int .i64 512] W fun e w' => e = .returned (.int .i64 64) ∧ W = w' from fun W => Sha64.Size_any 512 W Sha.ok512)
    have HS := Lib.hid (show ∀ W, GlobAt W → Calls Tryd.prog 19 #[.int .i64 512, .string ⟨#[97]⟩] W fun e w' => e = .returned (.string (B (Sha64.sumB 512 0 [97]))) ∧ Below W.heap.size W w' from fun W h => Sha.Sum_512 [97] W h (by simp))
    have hl : (Sha64.sumB 512 0 [97]).length = 64 := Sha64.sumB_length 512 0 [97] (by omega)
    generalize Sha64.sumB 512 0 [97] = r at *
    go_enter Tryd.func10, Tryd.ntmps10
    go_wp2_with fail
    refine Calls.ext (H0.out _) fun u => ?_
    go_wp2_with fail
    refine Calls.mono (HB.out _) ?_
    rintro _ _ ⟨rfl, rfl⟩
    go_wp2_with fail
    refine Calls.mono (HZ.out _) ?_
    rintro _ _ ⟨rfl, rfl⟩
    go_wp2_with fail
    refine Calls.ext (HS.out _ (HG.out.below (ext_below _ _))) fun u2 => ?_
    go_wp2
    go_ret
    exact ⟨by simp [hl], by ((repeat' (with_reducible first | exact Below.refl _ _ | assumption | refine Below.drew ?_ | refine below_drewN ?_ _ | refine Below.setCell ?_ ?_ _ | refine Below.alloc ?_ ?_ _ | refine Below.ext ?_ ?_ _ | refine Below.trans ?_ (Below.mono ‹_› ?_))) <;> first | omega | (simp; done) | (simp; omega))⟩
  have ho : Other x := ⟨by simpa using h256, by simpa using h384, by simpa using h512⟩
  have HB := Lib.hid fun W => Sha.Block_none x W ho
  have HZ := Lib.hid fun W => Sha.Size_none x W ho
  have HS := Lib.hid (show ∀ W, Calls Tryd.prog 19 #[.int .i64 x, .string ⟨#[97]⟩] W fun e w' => e = .returned (.string (B [])) ∧ W = w' from fun W => Sha.Sum_none x [97] W ho)
  obtain ⟨h1, h2, h3⟩ := ho
  clear h256 h384 h512
  go_enter Tryd.func10, Tryd.ntmps10
  go_wp2_with fail
  refine Calls.ext (H0.out _) fun u => ?_
  go_wp2_with fail
  refine Calls.mono (HB.out _) ?_
  rintro _ _ ⟨rfl, rfl⟩
  go_wp2_with fail
  refine Calls.mono (HZ.out _) ?_
  rintro _ _ ⟨rfl, rfl⟩
  go_wp2_with fail
  refine Calls.mono (HS.out _) ?_
  rintro _ _ ⟨rfl, rfl⟩
  go_wp2
  go_ret
  exact ⟨rfl, by ((repeat' (with_reducible first | exact Below.refl _ _ | assumption | refine Below.drew ?_ | refine below_drewN ?_ _ | refine Below.setCell ?_ ?_ _ | refine Below.alloc ?_ ?_ _ | refine Below.ext ?_ ?_ _ | refine Below.trans ?_ (Below.mono ‹_› ?_))) <;> first | omega | (simp; done) | (simp; omega))⟩
set_option maxRecDepth 100000 in
theorem walk (W : World) (base : Nat) (args : Array Value) {H : Type} {enc : TypeId × Value → H} (ds : List (DataW H)) (ps : List MemPlace) (hg : GlobAt W)
    (hval : ∀ (j : Nat) t v, Tryd.f10.params[j]? = some t → args[j]? = some v → Value.okWide Tryd.prog W .any base t v)
    (hA : DataW.TrodAll enc Tryd.prog W 0 (fun _ => true) true Tryd.f10.params.toList args.toList ds ps) (hlt : ∀ p ∈ ps, p.block < W.heap.size) :
    Calls Tryd.prog 10 args W fun e W' => e = .returned (.bool true) ∧ Below W.heap.size W W' := by
  rw [Tryd.params10] at hA hval
  obtain ⟨v0, d0, rfl, rfl, h0⟩ := trodAll_one hA
  obtain ⟨x, rfl, rfl, rfl, wx⟩ := open_int Tryd.underlying3 (hval 0 3 v0 rfl rfl) h0
  exact sizes_law x W hg
set_option maxRecDepth 100000 in
theorem door_met (os : Os) (args : Array Value) : laidMetH Tryd.prog laidL ((World.doorLaid Tryd.prog 400 os).forCall (fun _ _ => 0) ⟨#[], args, []⟩).memory :=
  laidMetH_of_parts3 (fuel := 8) (laidMet_of_run' 8 (by kernel_rfl) (by kernel_rfl)) (by kernel_rfl) (by kernel_rfl)
set_option maxRecDepth 100000 in
theorem lifted (os : Os) (started : os.Started) (H : Type) (enc : TypeId × Value → H) :
    ReturnsInHanded {} Tryd.checked os 10 .any (fun w args => (Rows.shaSizesSpec.pre enc Tryd.prog Tryd.f10 [] false w args ∧ laidMetH Tryd.prog laidL w) ∧ sizedMet enc Tryd.prog Tryd.f10 (OpenSpec.ofChange Rows.shaSizesSpec) false w args) (Rows.shaSizesSpec.post enc Tryd.prog Tryd.f10 false true false false) :=
  law_lift_laid (C := Tryd.checked) (tb := 4) (by kernel_rfl) started (by kernel_rfl) Tryd.func10
    (ChangeSpec.witness_shaped (enc := enc) (C := Tryd.checked) (os := os) (X := fun w _ => laidMetH Tryd.prog laidL w) false (World.doorLaid Tryd.prog 400 os) #[.int .i64 0] 8 rfl (World.shaped_of_RefB (by kernel_rfl) (by kernel_rfl)) (by kernel_rfl) (by kernel_rfl) (by kernel_rfl) (door_met os _))
    (by kernel_rfl) (by kernel_rfl) rfl (by kernel_rfl) Tryd.underlying4 (fun ds h => by match ds, h with | [_], _ => exact ⟨rfl, rfl, rfl⟩)
    (fun W base args ds ps hL hval hA hlt => walk W base args ds ps (laid_glob hL) hval hA hlt)
theorem over : Rows.shaSizesRow.holds Tryd.pinned (OpenSpec.ofChange Rows.shaSizesSpec) :=
  OpenClaim.holds_of_wide 10 Tryd.f10 rfl rfl rfl rfl rfl rfl rfl ⟨rfl, rfl, rfl, rfl, rfl⟩ rfl rfl rfl rfl rfl (by kernel_rfl) Tryd.func10 (by kernel_rfl)
    (of_decide_eq_true (by kernel_rfl)) (by unfold Func.isWrapper; rw [if_neg (of_decide_eq_false (by kernel_rfl))]; exact ⟨rfl, rfl⟩)
    (fun os started H enc _ => lifted os started H enc)
theorem proved : Rows.ShaSizesCardSaid :=
  Claim7.holds_tied_plain_at .later [] [.data, .data] true (true, "2e3556fb2737b9446447295cc99a6f79054103e76f59878535ebabf517a44985") false
    over (fun _ h => by cases h) (by kernel_rfl) (fun _ h => by cases h) shaSizes_row_tie rfl ⟨rfl, rfl⟩ (by kernel_rfl) rfl
    (fun f fn hf hfn => by
      obtain rfl : f = 10 := Option.some.inj ((show Tryd.prog.funcNamed "dromond/dromondlaw05.ShaSizes" = some 10 by kernel_rfl).symm.trans hf) |>.symm
      obtain rfl : fn = Tryd.f10 := (Option.some.inj (Tryd.func10.symm.trans hfn)).symm
      exact ⟨by kernel_rfl, fun j t ht => by
        have hm := Array.mem_of_getElem? ht
        have hall : (Tryd.f10.params.toList.all fun u => !Tryd.prog.wantsStandIn u) = true := by kernel_rfl
        exact (show Tryd.prog.wantsStandIn t = false by simpa using List.all_eq_true.1 hall t (by simpa using hm))⟩)
    (by kernel_rfl)
#print axioms proved
end Go.Proofs.YtpgadpnaekhiaaaDoor.ShaSizes
