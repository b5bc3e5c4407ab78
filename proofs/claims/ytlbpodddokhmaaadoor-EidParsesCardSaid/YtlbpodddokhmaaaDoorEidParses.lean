/-
  EidParses: of every text that is parsed, Parse returns the name that has it, or an error, as the reference does.
  Conditions: none (the library's variables are as the program's text lays them: the card ties that).
-/
import Derived.Test.YtlbpodddokhmaaaDoorPrs5
import Derived.Test.YtlbpodddokhmaaaDoorFrameU
import Derived.Test.YtlbpodddokhmaaaDoorEid3
import Derived.Test.YtlbpodddokhmaaaDoorOpen2
import Derived.Test.YtlbpodddokhmaaaDoorTie
import Derived.Test.YtlbpodddokhmaaaDoorCards
import Derived.SevenTiedAt
namespace Go.Proofs.YtlbpodddokhmaaaDoor.EidParses
open Go.ChangeShapes Go.WideShapes Go.ChangeAt Go.RowKit Go.Deep Go.Proofs.YtlbpodddokhmaaaDoor.Eid Go.Proofs.YtlbpodddokhmaaaDoor.Itm Go.Proofs.YtlbpodddokhmaaaDoor.Fmt
set_option maxHeartbeats 1600000 in
set_option maxRecDepth 100000 in
theorem law_any (s : List UInt8) (w : World) (hg : Glob w) (hm : s.length ≤ 9223372036854775807) : Calls Tryd.prog 3 #[.string (B s)] w fun e w' => e = .returned (.bool true) ∧ Below w.heap.size w w' := by
  by_cases h90 : s.length ≤ 90
  · have HP := Lib.hid fun (W : World) (hW : Glob W) => Parse_any s (by omega) W hW
    have HR := Lib.hid fun (W : World) => rParse_any s h90 W
    have HG := Lib.hid hg
    have h90' : (s.length : Int) ≤ 90 := by omega
    clear h90 hg
    go_enter Tryd.func3, Tryd.ntmps3
    go_wp2_with fail
    refine (awake_any _).mono ?_
    rintro e w1 ⟨rfl, hb⟩
    have B1 := Lib.hid hb
    clear hb
    go_wp2_with fail
    refine (HP.out _ (HG.out.below B1.out)).mono ?_
    rintro e w2 ⟨hp, hb⟩
    have B2 := Lib.hid (B1.out.trans (hb.mono B1.out.size))
    have hp2 := hp
    obtain ⟨m, k, rfl, _⟩ := hp
    have HP2 := Lib.hid hp2
    have HNV : Hid (nmV m = .agg #[.int .i64 m.s, .string (B m.l), .int .u64 m.n, .int .u64 m.v]) := Lib.hid rfl
    rw [HNV.out]
    clear hb hp2 HP
    go_wp2_with (with_reducible refine stop_store 25 rfl ?_)
    refine store_row 25 (.tmp 3) (.tmp 18) rfl rfl rfl w2.heap.size #[.int .i64 m.s, .string (B m.l), .int .u64 m.n, .int .u64 m.v] rfl rfl 25 #[.int .i64 0, .string ⟨#[]⟩, .int .u64 0, .int .u64 0] (heap_alloc_last w2 _) infoE rfl (by simp [Value.oneCell']) ?_
    rw [World.setRow_alloc_new]
    obtain ⟨w3, hw3⟩ : ∃ w3, w2.alloc (.cells #[.int .i64 m.s, .string (B m.l), .int .u64 m.n, .int .u64 m.v] 25) = w3 := ⟨_, rfl⟩
    have b3 : Below w2.heap.size w2 w3 := by rw [← hw3]; exact (Below.refl _ _).alloc (Nat.le_refl _) _
    have q3 : w3.heap[w2.heap.size]? = some (.cells #[.int .i64 m.s, .string (B m.l), .int .u64 m.n, .int .u64 m.v] 25 (0, 0)) := by rw [← hw3]; exact heap_alloc_last w2 _
    have l3 : w2.heap.size < w3.heap.size := by rw [← hw3]; exact lt_of_last
    rw [hw3]
    clear hw3
    have B3 := Lib.hid (B2.out.trans (b3.mono B2.out.size))
    have Q3 := Lib.hid q3
    clear b3 q3
    go_wp2_with fail
    refine (HR.out _).mono ?_
    rintro f w4 ⟨hf, hb⟩
    obtain rfl := parse_same HP2.out hf
    rw [HNV.out]
    have B4 := Lib.hid (B3.out.trans (hb.mono B3.out.size))
    have Q4 := Lib.hid (heap_below hb l3 Q3.out)
    have hs4 := hb.size
    clear hb hf HP2 HNV HR Q3
    generalize m.s = ms at *
    generalize m.l = ml at *
    generalize m.n = mn at *
    generalize m.v = mv at *
    go_wp2_with (with_reducible refine stop_store 25 rfl ?_)
    refine store_row 25 (.tmp 5) (.tmp 23) rfl rfl rfl w4.heap.size #[.int .i64 ms, .string (B ml), .int .u64 mn, .int .u64 mv] rfl rfl 25 #[.int .i64 0, .string ⟨#[]⟩, .int .u64 0, .int .u64 0] (heap_alloc_last w4 _) infoE rfl (by simp [Value.oneCell']) ?_
    rw [World.setRow_alloc_new]
    obtain ⟨w5, hw5⟩ : ∃ w5, w4.alloc (.cells #[.int .i64 ms, .string (B ml), .int .u64 mn, .int .u64 mv] 25) = w5 := ⟨_, rfl⟩
    have b5 : Below w4.heap.size w4 w5 := by rw [← hw5]; exact (Below.refl _ _).alloc (Nat.le_refl _) _
    have q5 : w5.heap[w4.heap.size]? = some (.cells #[.int .i64 ms, .string (B ml), .int .u64 mn, .int .u64 mv] 25 (0, 0)) := by rw [← hw5]; exact heap_alloc_last w4 _
    rw [hw5]
    clear hw5
    have B5 := Lib.hid (B4.out.trans (b5.mono B4.out.size))
    have Q5 := Lib.hid (heap_below b5 (by omega) Q4.out)
    have QM := Lib.hid q5
    clear b5 q5 Q4
    go_wp2_with (with_reducible refine stop_load 25 rfl ?_)
    refine load_mid 25 (.tmp 3) rfl rfl (some 25) rfl w2.heap.size 0 rfl #[.int .i64 ms, .string (B ml), .int .u64 mn, .int .u64 mv] (rangeAt_row Q5.out) _ Tryd.underlying25 rfl infoE ?_
    go_wp2_with (with_reducible refine stop_load 25 rfl ?_)
    refine load_mid 25 (.tmp 5) rfl rfl (some 26) rfl w4.heap.size 0 rfl #[.int .i64 ms, .string (B ml), .int .u64 mn, .int .u64 mv] (rangeAt_row QM.out) _ Tryd.underlying25 rfl infoE ?_
    go_wp2
    go_ret
    exact ⟨rfl, B5.out⟩
  · have h90' : ¬ (s.length : Int) ≤ 90 := by omega
    clear h90
    go_enter Tryd.func3, Tryd.ntmps3
    go_wp2_with fail
    refine (awake_any _).mono ?_
    rintro e w1 ⟨rfl, hb⟩
    have B1 := Lib.hid hb
    clear hb
    go_wp2_with fail
    refine (awake_any _).mono ?_
    rintro e w2 ⟨rfl, hb⟩
    have B2 := Lib.hid (B1.out.trans (hb.mono B1.out.size))
    clear hb
    go_wp2
    go_ret
    exact ⟨rfl, B2.out⟩
set_option maxRecDepth 100000 in
theorem walk (W : World) (base : Nat) (args : Array Value) {H : Type} {enc : TypeId × Value → H} (ds : List (DataW H)) (ps : List MemPlace) (hg : GlobAt W)
    (hval : ∀ (j : Nat) t v, Tryd.f3.params[j]? = some t → args[j]? = some v → Value.okWide Tryd.prog W .any base t v)
    (hA : DataW.TrodAll enc Tryd.prog W 0 (fun _ => true) true Tryd.f3.params.toList args.toList ds ps) (hlt : ∀ p ∈ ps, p.block < W.heap.size) :
    Calls Tryd.prog 3 args W fun e W' => e = .returned (.bool true) ∧ Below W.heap.size W W' := by
  rw [Tryd.params3] at hA hval
  obtain ⟨v0, d0, rfl, rfl, h0⟩ := trodAll_one hA
  obtain ⟨s, rfl, hs⟩ := open_str Tryd.underlying9 (hval 0 9 v0 rfl rfl) h0 hlt
  exact law_any s W hg hs
set_option maxRecDepth 100000 in
theorem door_met (os : Os) (args : Array Value) : laidMetH Tryd.prog laidL ((World.doorLaid Tryd.prog 400 os).forCall (fun _ _ => 0) ⟨#[], args, []⟩).memory :=
  laidMetH_of_parts3 (fuel := 8) (laidMet_of_run' 8 (by kernel_rfl) (by kernel_rfl)) (by kernel_rfl) (by kernel_rfl)
set_option maxRecDepth 100000 in
theorem lifted (os : Os) (started : os.Started) (H : Type) (enc : TypeId × Value → H) :
    ReturnsInHanded {} Tryd.checked os 3 .any (fun w args => (Rows.eidParsesSpec.pre enc Tryd.prog Tryd.f3 [] false w args ∧ laidMetH Tryd.prog laidL w) ∧ sizedMet enc Tryd.prog Tryd.f3 (OpenSpec.ofChange Rows.eidParsesSpec) false w args) (Rows.eidParsesSpec.post enc Tryd.prog Tryd.f3 false true false false) :=
  law_lift_laid (C := Tryd.checked) (tb := 4) (by kernel_rfl) started (by kernel_rfl) Tryd.func3
    (ChangeSpec.witness_shaped (enc := enc) (C := Tryd.checked) (os := os) (X := fun w _ => laidMetH Tryd.prog laidL w) false (World.doorLaid Tryd.prog 400 os) #[.string ⟨#[]⟩] 8 rfl (World.shaped_of_RefB (by kernel_rfl) (by kernel_rfl)) (by kernel_rfl) (by kernel_rfl) (by kernel_rfl) (door_met os _))
    (by kernel_rfl) (by kernel_rfl) rfl (by kernel_rfl) Tryd.underlying4 (fun ds h => by match ds, h with | [_], _ => exact ⟨rfl, rfl, rfl⟩)
    (fun W base args ds ps hL hval hA hlt => walk W base args ds ps (laid_glob hL) hval hA hlt)
theorem over : Rows.eidParsesRow.holds Tryd.pinned (OpenSpec.ofChange Rows.eidParsesSpec) :=
  OpenClaim.holds_of_wide 3 Tryd.f3 rfl rfl rfl rfl rfl rfl rfl ⟨rfl, rfl, rfl, rfl, rfl⟩ rfl rfl rfl rfl rfl (by kernel_rfl) Tryd.func3 (by kernel_rfl)
    (of_decide_eq_true (by kernel_rfl)) (by unfold Func.isWrapper; rw [if_neg (of_decide_eq_false (by kernel_rfl))]; exact ⟨rfl, rfl⟩)
    (fun os started H enc _ => lifted os started H enc)
theorem proved : Rows.EidParsesCardSaid :=
  Claim7.holds_tied_plain_at .later [] [.data, .data, .data, .sentinel, .sentinel] true (true, "08e871a8bd3f91ee1a7ec3f79a3cc1bcdcae0cd351f44e4860eabb233fc97e56") true
    over (fun _ h => by cases h) (by kernel_rfl) (fun _ h => by cases h) eidParses_row_tie rfl ⟨rfl, rfl⟩ (by kernel_rfl) rfl
    (fun f fn hf hfn => by
      obtain rfl : f = 3 := Option.some.inj ((show Tryd.prog.funcNamed "dromond/dromondlaw10.EidParses" = some 3 by kernel_rfl).symm.trans hf) |>.symm
      obtain rfl : fn = Tryd.f3 := (Option.some.inj (Tryd.func3.symm.trans hfn)).symm
      exact ⟨by kernel_rfl, fun j t ht => by
        have hm := Array.mem_of_getElem? ht
        have hall : (Tryd.f3.params.toList.all fun u => !Tryd.prog.wantsStandIn u) = true := by kernel_rfl
        exact (show Tryd.prog.wantsStandIn t = false by simpa using List.all_eq_true.1 hall t (by simpa using hm))⟩)
    (by kernel_rfl)
#print axioms proved
end Go.Proofs.YtlbpodddokhmaaaDoor.EidParses
