/-
  HmacSizes: for other sizes there is no code.
  Conditions: none (the package's two tables are as the program's text lays them: the card ties that).
-/
import Derived.Test.YtpgadpnaekhiaaaDoorRsE
import Derived.Test.YtpgadpnaekhiaaaDoorOpen
import Derived.Test.YtpgadpnaekhiaaaDoorOpen2
import Derived.Test.YtpgadpnaekhiaaaDoorTie
import Derived.Test.YtpgadpnaekhiaaaDoorCards
import Derived.SevenTiedAt
namespace Go.Proofs.YtpgadpnaekhiaaaDoor.HmacSizes
open Go.ChangeShapes Go.WideShapes Go.ChangeAt Go.RowKit Go.Deep Go.Proofs.YtpgadpnaekhiaaaDoor.Hm
open Go.Proofs.YtpgadpnaekhiaaaDoor.Sha (GlobAt Other)
set_option maxRecDepth 100000 in
theorem both_law (x : Int) (d key t : List UInt8) (w : World) (hg : GlobAt w) (hk3 : (key.length : Int) ≤ 300) (ht3 : (t.length : Int) ≤ 300)
    (hs : ∀ b W, GlobAt W → W.cell? ⟨b, 0, none⟩ = some (.string (B t)) → Calls Tryd.prog 13 #[.int .i64 x, .string (B key), .slice (some ⟨b, 0, none⟩) 1 1] W fun e w' => e = .returned (.string (B d)) ∧ Below W.heap.size W w')
    (hr : ∀ W, Calls Tryd.prog 14 #[.int .i64 x, .string (B key), .string (B t)] W fun e w' => e = .returned (.string (B d)) ∧ Below W.heap.size W w') :
    Calls Tryd.prog 4 #[.int .i64 x, .string (B key), .string (B t)] w fun e w' => e = .returned (.bool true) ∧ Below w.heap.size w w' := by
  have H0 := Lib.hid awake6_any
  have HG := Lib.hid hg
  have HS := Lib.hid hs
  have HR := Lib.hid hr
  clear hg hs hr
  go_enter Tryd.func4, Tryd.ntmps4
  go_wp2_with fail
  refine Calls.below (H0.out _ HG.out) fun W1 hW1 => ?_
  go_wp2_with fail
  refine Calls.below (HS.out _ _ ((HG.out.below hW1).below ((Below.refl _ _).alloc (Nat.le_refl _) _)) (by rw [World.cell?_alloc_new]; rfl)) fun W3 hW3 => ?_
  have hb3 := (hW1.alloc hW1.size (.cells #[.string (B t)] 9)).trans (hW3.mono (hW1.alloc hW1.size _).size)
  clear hW3 hW1
  go_wp2_with fail
  refine Calls.below (HR.out _) fun W4 hW4 => ?_
  go_wp2
  go_ret
  exact ⟨by simp, hb3.trans (hW4.mono hb3.size)⟩
theorem of_same {f : FuncId} {args : Array Value} {w : World} {v : Value} (h : Calls Tryd.prog f args w fun e w' => e = .returned v ∧ w = w') : Calls Tryd.prog f args w fun e w' => e = .returned v ∧ Below w.heap.size w w' :=
  h.mono fun _ _ ⟨a, b⟩ => ⟨a, by rw [← b]; exact Below.refl _ _⟩
set_option maxRecDepth 100000 in
theorem sizes_law (x : Int) (key t : List UInt8) (w : World) (hg : GlobAt w) (_hk : key.length ≤ maxLen) (_ht : t.length ≤ maxLen) : Calls Tryd.prog 4 #[.int .i64 x, .string (B key), .string (B t)] w fun e w' => e = .returned (.bool true) ∧ Below w.heap.size w w' := by
  by_cases h5 : (key.length : Int) ≤ 300 ∧ (t.length : Int) ≤ 300
  · obtain ⟨hk3, ht3⟩ := h5
    have good : ∀ size : Nat, Hm.Good size → x = (size : Int) → Calls Tryd.prog 4 #[.int .i64 x, .string (B key), .string (B t)] w fun e w' => e = .returned (.bool true) ∧ Below w.heap.size w w' := by
      intro size hgd he
      subst he
      exact both_law _ (hmacB size key t) key t w hg hk3 ht3 (fun b W hW hc => hmac_one size key t b W hgd hW (by omega) (by omega) hc) (fun W => RefHmac_any size key t W hgd (by omega) (by omega))
    by_cases h1 : x = 256
    · exact good 256 (.inl rfl) h1
    by_cases h2 : x = 384
    · exact good 384 (.inr (.inl rfl)) h2
    by_cases h3 : x = 512
    · exact good 512 (.inr (.inr rfl)) h3
    have ho : Other x := ⟨by simpa using h1, by simpa using h2, by simpa using h3⟩
    exact both_law x [] key t w hg hk3 ht3 (fun b W _ _ => of_same (hmac_none x key _ W ho)) (fun W => of_same (RefHmac_none x key t W ho))
  · have H0 := Lib.hid awake6_any
    have HG := Lib.hid hg
    clear hg
    by_cases hk3 : (key.length : Int) ≤ 300
    · have ht3 : ¬ (t.length : Int) ≤ 300 := fun h => h5 ⟨hk3, h⟩
      clear h5
      go_enter Tryd.func4, Tryd.ntmps4
      go_wp2_with fail
      refine Calls.ext (H0.out _ HG.out) fun u1 => ?_
      go_wp2_with fail
      refine Calls.ext (H0.out _ (HG.out.below (ext_below _ _))) fun u2 => ?_
      go_wp2
      go_ret
      exact ⟨rfl, by ((repeat' (with_reducible first | exact Below.refl _ _ | assumption | refine Below.drew ?_ | refine below_drewN ?_ _ | refine Below.setCell ?_ ?_ _ | refine Below.alloc ?_ ?_ _ | refine Below.ext ?_ ?_ _ | refine Below.trans ?_ (Below.mono ‹_› ?_))) <;> first | omega | (simp; done) | (simp; omega))⟩
    · clear h5
      go_enter Tryd.func4, Tryd.ntmps4
      go_wp2_with fail
      refine Calls.ext (H0.out _ HG.out) fun u1 => ?_
      go_wp2_with fail
      refine Calls.ext (H0.out _ (HG.out.below (ext_below _ _))) fun u2 => ?_
      go_wp2
      go_ret
      exact ⟨rfl, by ((repeat' (with_reducible first | exact Below.refl _ _ | assumption | refine Below.drew ?_ | refine below_drewN ?_ _ | refine Below.setCell ?_ ?_ _ | refine Below.alloc ?_ ?_ _ | refine Below.ext ?_ ?_ _ | refine Below.trans ?_ (Below.mono ‹_› ?_))) <;> first | omega | (simp; done) | (simp; omega))⟩
set_option maxRecDepth 100000 in
theorem walk (W : World) (base : Nat) (args : Array Value) {H : Type} {enc : TypeId × Value → H} (ds : List (DataW H)) (ps : List MemPlace) (hg : GlobAt W)
    (hval : ∀ (j : Nat) t v, Tryd.f4.params[j]? = some t → args[j]? = some v → Value.okWide Tryd.prog W .any base t v)
    (hA : DataW.TrodAll enc Tryd.prog W 0 (fun _ => true) true Tryd.f4.params.toList args.toList ds ps) (hlt : ∀ p ∈ ps, p.block < W.heap.size) :
    Calls Tryd.prog 4 args W fun e W' => e = .returned (.bool true) ∧ Below W.heap.size W W' := by
  rw [Tryd.params4] at hA hval
  obtain ⟨v0, v1, v2, d0, d1, d2, p0, p1, p2, rfl, rfl, rfl, h0, h1, h2⟩ := trodAll_three hA
  obtain ⟨x, rfl, hx⟩ := open_int Tryd.underlying3 (hval 0 3 v0 rfl rfl) h0 (fun p hp => hlt p (by simp [hp]))
  obtain ⟨a, rfl, ha⟩ := open_str Tryd.underlying9 (hval 1 9 v1 rfl rfl) h1 (fun p hp => hlt p (by simp [hp]))
  obtain ⟨b, rfl, hb⟩ := open_str Tryd.underlying9 (hval 2 9 v2 rfl rfl) h2 (fun p hp => hlt p (by simp [hp]))
  exact sizes_law x a b W hg ha hb
set_option maxRecDepth 100000 in
theorem door_met (os : Os) (args : Array Value) : laidMetH Tryd.prog laidL ((World.doorLaid Tryd.prog 400 os).forCall (fun _ _ => 0) ⟨#[], args, []⟩).memory :=
  laidMetH_of_parts3 (fuel := 8) (laidMet_of_run' 8 (by kernel_rfl) (by kernel_rfl)) (by kernel_rfl) (by kernel_rfl)
set_option maxRecDepth 100000 in
theorem lifted (os : Os) (started : os.Started) (H : Type) (enc : TypeId × Value → H) :
    ReturnsInHanded {} Tryd.checked os 4 .any (fun w args => (Rows.hmacSizesSpec.pre enc Tryd.prog Tryd.f4 [] false w args ∧ laidMetH Tryd.prog laidL w) ∧ sizedMet enc Tryd.prog Tryd.f4 (OpenSpec.ofChange Rows.hmacSizesSpec) false w args) (Rows.hmacSizesSpec.post enc Tryd.prog Tryd.f4 false true false false) :=
  law_lift_laid (C := Tryd.checked) (tb := 4) (by kernel_rfl) started (by kernel_rfl) Tryd.func4
    (ChangeSpec.witness_shaped (enc := enc) (C := Tryd.checked) (os := os) (X := fun w _ => laidMetH Tryd.prog laidL w) false (World.doorLaid Tryd.prog 400 os) #[.int .i64 0, .string ⟨#[]⟩, .string ⟨#[]⟩] 8 rfl (World.shaped_of_RefB (by kernel_rfl) (by kernel_rfl)) (by kernel_rfl) (by kernel_rfl) (by kernel_rfl) (door_met os _))
    (by kernel_rfl) (by kernel_rfl) rfl (by kernel_rfl) Tryd.underlying4 (fun ds h => by match ds, h with | [_, _, _], _ => exact ⟨rfl, rfl, rfl⟩)
    (fun W base args ds ps hL hval hA hlt => walk W base args ds ps (laid_glob hL) hval hA hlt)
theorem over : Rows.hmacSizesRow.holds Tryd.pinned (OpenSpec.ofChange Rows.hmacSizesSpec) :=
  OpenClaim.holds_of_wide 4 Tryd.f4 rfl rfl rfl rfl rfl rfl rfl ⟨rfl, rfl, rfl, rfl, rfl⟩ rfl rfl rfl rfl rfl (by kernel_rfl) Tryd.func4 (by kernel_rfl)
    (of_decide_eq_true (by kernel_rfl)) (by unfold Func.isWrapper; rw [if_neg (of_decide_eq_false (by kernel_rfl))]; exact ⟨rfl, rfl⟩)
    (fun os started H enc _ => lifted os started H enc)
theorem proved : Rows.HmacSizesCardSaid :=
  Claim7.holds_tied_plain_at .later [] [.data, .data] true (true, "2e3556fb2737b9446447295cc99a6f79054103e76f59878535ebabf517a44985") false
    over (fun _ h => by cases h) (by kernel_rfl) (fun _ h => by cases h) hmacSizes_row_tie rfl ⟨rfl, rfl⟩ (by kernel_rfl) rfl
    (fun f fn hf hfn => by
      obtain rfl : f = 4 := Option.some.inj ((show Tryd.prog.funcNamed "dromond/dromondlaw06.HmacSizes" = some 4 by kernel_rfl).symm.trans hf) |>.symm
      obtain rfl : fn = Tryd.f4 := (Option.some.inj (Tryd.func4.symm.trans hfn)).symm
      exact ⟨by kernel_rfl, fun j t ht => by
        have hm := Array.mem_of_getElem? ht
        have hall : (Tryd.f4.params.toList.all fun u => !Tryd.prog.wantsStandIn u) = true := by kernel_rfl
        exact (show Tryd.prog.wantsStandIn t = false by simpa using List.all_eq_true.1 hall t (by simpa using hm))⟩)
    (by kernel_rfl)
#print axioms proved
end Go.Proofs.YtpgadpnaekhiaaaDoor.HmacSizes
