/-
  ShaSums: the three digests are the standard's for any bytes.
  Conditions: none (the package's two tables are as the program's text lays them: the card ties that).
-/
import Derived.Test.YtpgadpnaekhiaaaDoorRsD
import Derived.Test.YtpgadpnaekhiaaaDoorOpen
import Derived.Test.YtpgadpnaekhiaaaDoorOpen2
import Derived.Test.YtpgadpnaekhiaaaDoorTie
import Derived.Test.YtpgadpnaekhiaaaDoorCards
import Derived.SevenTiedAt
namespace Go.Proofs.YtpgadpnaekhiaaaDoor.ShaSums
open Go.ChangeShapes Go.WideShapes Go.ChangeAt Go.RowKit Go.Deep Go.Proofs.YtpgadpnaekhiaaaDoor.Hm
open Go.Proofs.YtpgadpnaekhiaaaDoor.Sha (GlobAt)
set_option maxRecDepth 100000 in
theorem sums_law (b : List UInt8) (c : Nat) (w : World) (hg : GlobAt w) (_hb : b.length ≤ maxLen) (hc : c < 256) : Calls Tryd.prog 8 #[.string (B b), .int .u8 (c : Int)] w fun e w' => e = .returned (.bool true) ∧ Below w.heap.size w w' := by
  have H0 := Lib.hid Sha.awake_any
  have HG := Lib.hid hg
  clear hg
  by_cases h6 : (b.length : Int) ≤ 600
  · obtain ⟨m, hm⟩ : ∃ m, c % 3 = m := ⟨_, rfl⟩
    have hm3 : m < 3 := by rw [← hm]; exact Nat.mod_lt _ (by omega)
    have htm : (c : Int).tmod 3 = (m : Int) := by rw [Int.tmod_eq_emod_of_nonneg (Int.natCast_nonneg _)]; omega
    have hidx := fun W => size_idx m hm3 W
    have hgd := size_good m hm3
    generalize sizeL m = size at *
    have HS := Lib.hid fun W hW => Sum_any size b W hgd hW (by omega)
    have HR := Lib.hid fun W => Ref_any size b W hgd (by omega)
    have hdl := digest_length size b hgd
    generalize digest size b = d at *
    obtain ⟨e, he⟩ : ∃ e, size / 8 = e := ⟨_, rfl⟩
    have htd : (size : Int).tdiv 8 = (e : Int) := by rw [← he]; simp
    have hsz : size < 1000 := by rcases hgd with rfl | rfl | rfl <;> omega
    rw [he] at hdl
    have hwe : wrap64 (e : Int) = (e : Int) := by unfold wrap64; omega
    have HDL := Lib.hid hdl
    clear hm he hgd
    go_enter Tryd.func8, Tryd.ntmps8
    go_wp2_with fail
    refine Calls.ext (H0.out _) fun u1 => ?_
    go_wp2_with fail
    refine Calls.ext (HS.out _ (HG.out.below (ext_below _ _))) fun u2 => ?_
    go_wp2_with fail
    refine Calls.ext (HR.out _) fun u3 => ?_
    go_wp2
    go_ret
    exact ⟨by simp [HDL.out], by ((repeat' (with_reducible first | exact Below.refl _ _ | assumption | refine Below.drew ?_ | refine below_drewN ?_ _ | refine Below.setCell ?_ ?_ _ | refine Below.alloc ?_ ?_ _ | refine Below.ext ?_ ?_ _ | refine Below.trans ?_ (Below.mono ‹_› ?_))) <;> first | omega | (simp; done) | (simp; omega))⟩
  · go_enter Tryd.func8, Tryd.ntmps8
    go_wp2_with fail
    refine Calls.ext (H0.out _) fun u1 => ?_
    go_wp2_with fail
    refine Calls.ext (H0.out _) fun u2 => ?_
    go_wp2
    go_ret
    exact ⟨rfl, by ((repeat' (with_reducible first | exact Below.refl _ _ | assumption | refine Below.drew ?_ | refine below_drewN ?_ _ | refine Below.setCell ?_ ?_ _ | refine Below.alloc ?_ ?_ _ | refine Below.ext ?_ ?_ _ | refine Below.trans ?_ (Below.mono ‹_› ?_))) <;> first | omega | (simp; done) | (simp; omega))⟩
set_option maxRecDepth 100000 in
theorem walk (W : World) (base : Nat) (args : Array Value) {H : Type} {enc : TypeId × Value → H} (ds : List (DataW H)) (ps : List MemPlace) (hg : GlobAt W)
    (hval : ∀ (j : Nat) t v, Tryd.f8.params[j]? = some t → args[j]? = some v → Value.okWide Tryd.prog W .any base t v)
    (hA : DataW.TrodAll enc Tryd.prog W 0 (fun _ => true) true Tryd.f8.params.toList args.toList ds ps) (hlt : ∀ p ∈ ps, p.block < W.heap.size) :
    Calls Tryd.prog 8 args W fun e W' => e = .returned (.bool true) ∧ Below W.heap.size W W' := by
  rw [Tryd.params8] at hA hval
  obtain ⟨v0, v1, d0, d1, p, q, rfl, rfl, rfl, h0, h1⟩ := trodAll_two hA
  obtain ⟨b, rfl, hb⟩ := open_str Tryd.underlying9 (hval 0 9 v0 rfl rfl) h0 (fun p hp => hlt p (by simp [hp]))
  obtain ⟨x, rfl, hx⟩ := open_int Tryd.underlying5 (hval 1 5 v1 rfl rfl) h1 (fun p hp => hlt p (by simp [hp]))
  have h1 : 0 ≤ x ∧ x < 256 := by
    simp [Lit.wf, IntKind.min, IntKind.max, IntKind.signed, IntKind.bits] at hx
    omega
  obtain ⟨c, rfl⟩ : ∃ c : Nat, x = (c : Int) := ⟨x.toNat, by omega⟩
  exact sums_law b c W hg hb (by omega)
set_option maxRecDepth 100000 in
theorem door_met (os : Os) (args : Array Value) : laidMetH Tryd.prog laidL ((World.doorLaid Tryd.prog 400 os).forCall (fun _ _ => 0) ⟨#[], args, []⟩).memory :=
  laidMetH_of_parts3 (fuel := 8) (laidMet_of_run' 8 (by kernel_rfl) (by kernel_rfl)) (by kernel_rfl) (by kernel_rfl)
set_option maxRecDepth 100000 in
theorem lifted (os : Os) (started : os.Started) (H : Type) (enc : TypeId × Value → H) :
    ReturnsInHanded {} Tryd.checked os 8 .any (fun w args => (Rows.shaSumsSpec.pre enc Tryd.prog Tryd.f8 [] false w args ∧ laidMetH Tryd.prog laidL w) ∧ sizedMet enc Tryd.prog Tryd.f8 (OpenSpec.ofChange Rows.shaSumsSpec) false w args) (Rows.shaSumsSpec.post enc Tryd.prog Tryd.f8 false true false false) :=
  law_lift_laid (C := Tryd.checked) (tb := 4) (by kernel_rfl) started (by kernel_rfl) Tryd.func8
    (ChangeSpec.witness_shaped (enc := enc) (C := Tryd.checked) (os := os) (X := fun w _ => laidMetH Tryd.prog laidL w) false (World.doorLaid Tryd.prog 400 os) #[.string ⟨#[]⟩, .int .u8 0] 8 rfl (World.shaped_of_RefB (by kernel_rfl) (by kernel_rfl)) (by kernel_rfl) (by kernel_rfl) (by kernel_rfl) (door_met os _))
    (by kernel_rfl) (by kernel_rfl) rfl (by kernel_rfl) Tryd.underlying4 (fun ds h => by match ds, h with | [_, _], _ => exact ⟨rfl, rfl, rfl⟩)
    (fun W base args ds ps hL hval hA hlt => walk W base args ds ps (laid_glob hL) hval hA hlt)
theorem over : Rows.shaSumsRow.holds Tryd.pinned (OpenSpec.ofChange Rows.shaSumsSpec) :=
  OpenClaim.holds_of_wide 8 Tryd.f8 rfl rfl rfl rfl rfl rfl rfl ⟨rfl, rfl, rfl, rfl, rfl⟩ rfl rfl rfl rfl rfl (by kernel_rfl) Tryd.func8 (by kernel_rfl)
    (of_decide_eq_true (by kernel_rfl)) (by unfold Func.isWrapper; rw [if_neg (of_decide_eq_false (by kernel_rfl))]; exact ⟨rfl, rfl⟩)
    (fun os started H enc _ => lifted os started H enc)
theorem proved : Rows.ShaSumsCardSaid :=
  Claim7.holds_tied_plain_at .later [] [.data, .data] true (true, "2e3556fb2737b9446447295cc99a6f79054103e76f59878535ebabf517a44985") false
    over (fun _ h => by cases h) (by kernel_rfl) (fun _ h => by cases h) shaSums_row_tie rfl ⟨rfl, rfl⟩ (by kernel_rfl) rfl
    (fun f fn hf hfn => by
      obtain rfl : f = 8 := Option.some.inj ((show Tryd.prog.funcNamed "dromond/dromondlaw05.ShaSums" = some 8 by kernel_rfl).symm.trans hf) |>.symm
      obtain rfl : fn = Tryd.f8 := (Option.some.inj (Tryd.func8.symm.trans hfn)).symm
      exact ⟨by kernel_rfl, fun j t ht => by
        have hm := Array.mem_of_getElem? ht
        have hall : (Tryd.f8.params.toList.all fun u => !Tryd.prog.wantsStandIn u) = true := by kernel_rfl
        exact (show Tryd.prog.wantsStandIn t = false by simpa using List.all_eq_true.1 hall t (by simpa using hm))⟩)
    (by kernel_rfl)
#print axioms proved
end Go.Proofs.YtpgadpnaekhiaaaDoor.ShaSums
