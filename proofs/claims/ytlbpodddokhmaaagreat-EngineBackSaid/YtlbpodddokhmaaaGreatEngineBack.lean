/-
  EngineBack: what was signed holds, and what was sealed is opened, with both engines, whatever happens before and after, if key and variant are permitted.
  Conditions: none.
-/
import Derived.Test.YtlbpodddokhmaaaGreatEngT
import Derived.Test.YtlbpodddokhmaaaGreatFrameG
import Derived.Test.YtlbpodddokhmaaaGreatOpen
import Derived.Test.YtlbpodddokhmaaaGreatOpen2
import Derived.BigQuiet
namespace Go.Proofs.YtlbpodddokhmaaaGreat.EngineBack
open Go.ChangeShapes Go.WideShapes Go.ChangeAt Go.RowKit Go.Deep Go.Great Go.Proofs.YtlbpodddokhmaaaGreat.Eng Go.Proofs.YtlbpodddokhmaaaGreat.EngS Go.Proofs.YtlbpodddokhmaaaGreat.EngT
open Go.Proofs.YtlbpodddokhmaaaGreat.EngX (Opp few1 few_cases Ent TabE)
open Go.Proofs.YtlbpodddokhmaaaGreat.Sha (GlobAt)
def arr (o : Opp) : Array Value := #[.int .u8 o.kd, .int .i64 o.vr, .string (B o.k), .string (B o.nn), .string (B o.wt), .string (B o.t), .string (B o.tg), .int .u8 o.bk]
theorem made_length (s : St) (key nonce t : List UInt8) : (madeS s key nonce t).length = t.length := by
  cases s with
  | none => exact Gf.streamB_length _ _ _
  | some es => exact freshB_length _ _
set_option maxHeartbeats 1600000 in
set_option maxRecDepth 100000 in
theorem rFew1_any (g : Nat) (o : Opp) (w : World) (hw : w.heap[g]? = some (.cells (arr o) 31 (0, 0))) : Calls Tryz.prog 7 #[.slice (some ⟨g, 0, none⟩) 1 1, .int .i64 1] w fun e w' => e = .returned (.bool (few1 o)) ∧ Below w.heap.size w w' := by
  have hgl := lt_of_heap hw
  have HW := Lib.hid hw
  have hfc := few_cases o
  have HF := Lib.hid hfc
  clear hw hfc
  go_enter Tryz.func7, Tryz.ntmps7
  go_wp2
  go_loopw [5] (fun s5 wr => ∃ i : Nat, i ≤ 1 ∧ s5 = .int .i64 (i : Int) ∧ (1 ≤ i → few1 o = true) ∧ Below w.heap.size w wr) (fun s _ => 1 - (intOf s).toNat)
  case atStart => exact ⟨0, by omega, rfl, fun h => absurd h (by omega), Below.refl _ _⟩
  case round =>
    obtain ⟨i, hi, rfl, h1, hb⟩ := hrel
    have hbw := hb.size
    have hrow := below_heap hb hgl HW.out
    by_cases hend : i = 1
    · subst hend
      have HR := Lib.hid (h1 (by omega))
      clear h1 hrow
      go_wp2
      go_ret
      exact ⟨by rw [HR.out]; rfl, hb⟩
    · obtain rfl : i = 0 := by omega
      have hcs : ∀ j, wr.cell? ⟨g, j, none⟩ = (arr o)[j]? := fun j => cell_of_row _ _ _ _ _ _ hrow
      have d0 := hcs 0
      have d1 := hcs 1
      have d2 := hcs 2
      have d3 := hcs 3
      have d4 := hcs 4
      have d5 := hcs 5
      have d6 := hcs 6
      have d7 := hcs 7
      have hfc := HF.out
      have HO := Lib.hid (show ∀ b, few1 o = b → few1 o = b from fun _ h => h)
      obtain ⟨okd, ovr, okk, onn, owt, ot, otg, obk⟩ := o
      simp [arr] at d0 d1 d2 d3 d4 d5 d6 d7
      simp only at hfc
      clear hcs h1 hrow HF HW
      have hbN : Below w.heap.size w (wr.alloc (.cells #[.int .u8 okd, .int .i64 ovr, .string (B okk), .string (B onn), .string (B owt), .string (B ot), .string (B otg), .int .u8 obk] 31)) := hb.alloc hbw _
      rcases hfc with ⟨hr, f1, f2, f3, f4, f5⟩ | ⟨hr, f1 | ⟨f1, f2⟩ | ⟨f1, f2, f3⟩ | ⟨f1, f2, f3, f4⟩ | ⟨f1, f2, f3, f4, f5⟩⟩
      · have HY2 := Lib.hid hr
        clear hr HO
        go_wp2
        go_round
        case rel => exact ⟨1, by omega, by go_num, fun _ => HY2.out, hbN⟩
        case measure => simp [intOf]
      all_goals
        have HN2 := Lib.hid hr
        clear hr HO
        go_wp2
        go_ret
        exact ⟨by rw [HN2.out]; rfl, hbN⟩
set_option maxHeartbeats 6400000 in
set_option maxRecDepth 100000 in
theorem back_false [Inhabited Go.Proofs.YtlbpodddokhmaaaGreat.Sha.Tabs] [Inhabited Go.Proofs.YtlbpodddokhmaaaGreat.Sha.Tabs] (o : Opp) (x : List UInt8) (w : World) (hg : GlobAt w) : Calls Tryz.prog 4 #[.bool false, .agg (arr o), .string (B x)] w fun e w' => e = .returned (.bool true) ∧ Below w.heap.size w w' := by
  have H0 := Lib.hid awake_any
  have hob : (w.alloc (.cells (arr o) 31)).heap[w.heap.size]? = some (.cells (arr o) 31 (0, 0)) := heap_alloc_last w _
  have hbel0 : Below w.heap.size w (w.alloc (.cells (arr o) 31)) := by ((repeat' (with_reducible first | exact Below.refl _ _ | assumption | refine Below.drew ?_ | refine below_drewN ?_ _ | refine Below.setCell ?_ ?_ _ | refine Below.alloc ?_ ?_ _ | refine Below.ext ?_ ?_ _ | refine Below.trans ?_ (Below.mono ‹_› ?_))) <;> first | omega | (simp; done) | (simp; omega))
  have HFEW := Lib.hid fun g W h => rFew1_any g o W h
  have HG := Lib.hid fun W (hb : Below w.heap.size w W) => hg.below hb
  have hfl : few1 o = true → o.wt.length ≤ 100 ∧ o.t.length ≤ 100 := fun h => by
    simp only [few1, Bool.and_eq_true, decide_eq_true_eq] at h
    exact ⟨h.1.1.2, h.1.2⟩
  have hlx := B_size x
  obtain ⟨okd, ovr, ok, on, ow, ot, otg, obk⟩ := o
  unfold arr at *
  simp only at *
  clear hg
  go_enter Tryz.func4, Tryz.ntmps4
  go_wp2_with fail
  generalize w.alloc (.cells #[.int .u8 okd, .int .i64 ovr, .string (B ok), .string (B on), .string (B ow), .string (B ot), .string (B otg), .int .u8 obk] 31) = W0 at *
  obtain ⟨ob, hobe⟩ : ∃ ob, ob = w.heap.size := ⟨_, rfl⟩
  rw [← hobe] at hob ⊢
  have HOC := Lib.hid (show ∀ W, Below W0.heap.size W0 W → W.cell? ⟨ob, 0, none⟩ = some (.int .u8 okd) ∧ W.cell? ⟨ob, 1, none⟩ = some (.int .i64 ovr) ∧ W.cell? ⟨ob, 2, none⟩ = some (.string (B ok)) ∧ W.cell? ⟨ob, 3, none⟩ = some (.string (B on)) ∧ W.cell? ⟨ob, 4, none⟩ = some (.string (B ow)) ∧ W.cell? ⟨ob, 5, none⟩ = some (.string (B ot)) ∧ W.cell? ⟨ob, 6, none⟩ = some (.string (B otg)) ∧ W.cell? ⟨ob, 7, none⟩ = some (.int .u8 obk) from fun W hb => by
    have h := fun j => cell_of_row W _ j _ _ _ (below_heap hb (lt_of_heap hob) hob)
    exact ⟨h 0, h 1, h 2, h 3, h 4, h 5, h 6, h 7⟩)
  generalize hF : few1 ⟨okd, ovr, ok, on, ow, ot, otg, obk⟩ = bf at HFEW hfl
  have HSIZE := Lib.hid hbel0.size
  have HGW := Lib.hid fun W (hb : Below W0.heap.size W0 W) => HG.out W (hbel0.trans (hb.mono HSIZE.out))
  clear hF hob HG
  clear hobe
  refine Calls.below (H0.out _) fun W1 hW1 => ?_
  obtain ⟨o0, o1, o2, o3, o4, o5, o6, o7⟩ := HOC.out W1 hW1
  go_wp2_with fail
  have hb1 : Below W0.heap.size W0 (W1.alloc (.cells #[.int .u8 okd, .int .i64 ovr, .string (B ok), .string (B on), .string (B ow), .string (B ot), .string (B otg), .int .u8 obk] 31)) := hW1.alloc hW1.size _
  refine Calls.below (HFEW.out _ _ (heap_alloc_last W1 (.cells #[.int .u8 okd, .int .i64 ovr, .string (B ok), .string (B on), .string (B ow), .string (B ot), .string (B otg), .int .u8 obk] 31))) fun W2 hW2 => ?_
  have hb2 := hb1.trans (hW2.mono hb1.size)
  clear o0 o1 o2 o3 o4 o5 o6 o7
  clear hW1 hb1 hW2
  cases bf with
  | false =>
    go_wp2_with fail
    refine Calls.below (H0.out _) fun W3 hW3 => ?_
    have hb3 := hb2.trans (hW3.mono hb2.size)
    go_wp2
    go_ret
    exact ⟨rfl, hbel0.trans (hb3.mono HSIZE.out)⟩
  | true =>
    obtain ⟨how, hot⟩ := hfl rfl
    clear hfl HFEW
    by_cases hx : (x.length : Int) ≤ 100
    case neg =>
      go_wp2_with fail
      refine Calls.below (H0.out _) fun W3 hW3 => ?_
      have hb3 := hb2.trans (hW3.mono hb2.size)
      go_wp2
      go_ret
      exact ⟨rfl, hbel0.trans (hb3.mono HSIZE.out)⟩
    go_wp2_with fail
    refine (real_any _).mono ?_
    rintro _ W3 ⟨rfl, hW3⟩
    have hb3 : Below W0.heap.size W0 W3 := by rw [← hW3]; exact hb2.alloc hb2.size _
    have hre : W3.cell? ⟨W2.heap.size, 0, none⟩ = some (.iface 51 (.agg #[])) := by rw [← hW3, cell_of_row _ _ 0 _ _ _ (heap_alloc_last W2 _)]; rfl
    have hle2 := hb2.size
    have hA0 : At W3 W0.heap.size W2.heap.size none := ⟨HGW.out _ hb3, hre, hle2⟩
    obtain ⟨s0, hs0⟩ : ∃ s : St, s = none := ⟨_, rfl⟩
    rw [← hs0] at hA0
    have hf0 : few s0 0 := by rw [hs0]; trivial
    have hq0 : NoSeal s0 := by rw [hs0]; trivial
    obtain ⟨eb, heb⟩ : ∃ eb, eb = W2.heap.size := ⟨_, rfl⟩
    rw [← heb] at hA0 ⊢
    clear hW3 hre heb hs0 hle2
    obtain ⟨W4, hW4⟩ : ∃ W, W = W3 := ⟨_, rfl⟩
    rw [← hW4] at hA0 hb3 ⊢
    have hb4 := hb3
    clear hW4 hb2
    have HRS := Lib.hid fun W => rSigns_all ovr ok W
    have HRT := Lib.hid fun W => rSeals_all ovr ok on W
    have hn0 : x.length ≤ 1000 := by omega
    have HC := Lib.hid (show Calls Tryz.prog 10 #[.pointer (some ⟨eb, 0, none⟩), .int .i64 5, .string ⟨#[107]⟩, .string (B x)] W4 _ from sign_st W0.heap.size eb s0 5 [107] x W4 hA0 (few_le hf0 (by omega)) (by decide) hn0)
    have HF := Lib.hid (few_sign hf0 5 [107] x)
    have HQ := Lib.hid (noseal_sign hq0 5 [107] x)
    generalize tagS s0 5 [107] x = tag0 at *
    generalize signS s0 5 [107] x = s1 at *
    clear hA0 hf0 hq0
    go_wp2_with fail
    refine HC.out.mono ?_
    rintro _ W5 ⟨rfl, hA5, hb45⟩
    have hb5 := hb4.trans hb45
    clear HC hb45 hb4 hb3
    dsimp only
    obtain ⟨c1, hS1⟩ : ∃ c, signsB ovr ok = c := ⟨_, rfl⟩
    obtain ⟨c2, hS2⟩ : ∃ c, sealsB ovr ok on = c := ⟨_, rfl⟩
    cases c1 with
    | false =>
      cases c2 with
      | false =>
        have HA5 := Lib.hid hA5
        have HB5 := Lib.hid hb5
        clear hA5 hb5
        obtain ⟨o0, o1, o2, o3, o4, o5, o6, o7⟩ := HOC.out W5 HB5.out
        have HC := Lib.hid (Sign_none eb ovr ok ot W5 hS1)
        go_wp2_with fail
        refine HC.out.mono ?_
        rintro _ _ ⟨rfl, rfl⟩
        clear HC
        clear o0 o1 o2 o3 o4 o5 o6 o7
        dsimp only
        obtain ⟨o0, o1, o2, o3, o4, o5, o6, o7⟩ := HOC.out W5 HB5.out
        have HC := Lib.hid (Seal_none eb ovr ok on ow ot W5 hS2)
        go_wp2_with fail
        refine HC.out.mono ?_
        rintro _ _ ⟨rfl, rfl⟩
        clear HC
        clear o0 o1 o2 o3 o4 o5 o6 o7
        dsimp only
        obtain ⟨o0, o1, o2, o3, o4, o5, o6, o7⟩ := HOC.out W5 HB5.out
        have HC := Lib.hid (Sign_none eb ovr ok x W5 hS1)
        go_wp2_with fail
        refine HC.out.mono ?_
        rintro _ _ ⟨rfl, rfl⟩
        clear HC
        clear o0 o1 o2 o3 o4 o5 o6 o7
        dsimp only
        obtain ⟨o0, o1, o2, o3, o4, o5, o6, o7⟩ := HOC.out W5 HB5.out
        have HC := Lib.hid (Seal_none eb ovr ok on ow x W5 hS2)
        go_wp2_with fail
        refine HC.out.mono ?_
        rintro _ _ ⟨rfl, rfl⟩
        clear HC
        clear o0 o1 o2 o3 o4 o5 o6 o7
        dsimp only
        obtain ⟨o0, o1, o2, o3, o4, o5, o6, o7⟩ := HOC.out W5 HB5.out
        go_wp2_with fail
        refine (HRS.out _).mono ?_
        rintro _ _ ⟨rfl, rfl⟩
        rw [hS1]
        go_wp2_with fail
        refine (HRT.out _).mono ?_
        rintro _ _ ⟨rfl, rfl⟩
        rw [hS2]
        go_wp2
        go_ret
        exact ⟨by simp, hbel0.trans (HB5.out.mono HSIZE.out)⟩
      | true =>
        have HA5 := Lib.hid hA5
        have HB5 := Lib.hid hb5
        clear hA5 hb5
        obtain ⟨o0, o1, o2, o3, o4, o5, o6, o7⟩ := HOC.out W5 HB5.out
        have HC := Lib.hid (Sign_none eb ovr ok ot W5 hS1)
        go_wp2_with fail
        refine HC.out.mono ?_
        rintro _ _ ⟨rfl, rfl⟩
        clear HC
        clear o0 o1 o2 o3 o4 o5 o6 o7
        dsimp only
        obtain ⟨o0, o1, o2, o3, o4, o5, o6, o7⟩ := HOC.out W5 HB5.out
        have HC := Lib.hid (seal_st W0.heap.size eb s1 ovr ok on ow ot W5 HA5.out (few_le HF.out (by omega)) hS2 (by omega) (by omega))
        have HF2 := Lib.hid (few_seal HF.out ovr ok on ow ot)
        have HO := Lib.hid (opens_seal HQ.out ovr ok on ow ot (seals_true hS2).2.2.1)
        clear HQ
        have hml := made_length s1 ok on ot
        generalize madeS s1 ok on ot = made at *
        generalize stagS s1 ovr ok on ow ot = stag at *
        generalize sealS s1 ovr ok on ow ot = s3 at *
        clear HF
        go_wp2_with fail
        refine HC.out.mono ?_
        rintro _ W6 ⟨rfl, hA, hb⟩
        have HB6 := Lib.hid (HB5.out.trans hb)
        have HA6 := Lib.hid hA
        clear hA hb HC HA5 HB5
        clear o0 o1 o2 o3 o4 o5 o6 o7
        have HF := HF2
        clear HF2
        dsimp only
        obtain ⟨o0, o1, o2, o3, o4, o5, o6, o7⟩ := HOC.out W6 HB6.out
        have HC := Lib.hid (Sign_none eb ovr ok x W6 hS1)
        go_wp2_with fail
        refine HC.out.mono ?_
        rintro _ _ ⟨rfl, rfl⟩
        clear HC
        clear o0 o1 o2 o3 o4 o5 o6 o7
        dsimp only
        obtain ⟨o0, o1, o2, o3, o4, o5, o6, o7⟩ := HOC.out W6 HB6.out
        have HC := Lib.hid (seal_st W0.heap.size eb s3 ovr ok on ow x W6 HA6.out (few_le HF.out (by omega)) hS2 (by omega) (by omega))
        have HF2 := Lib.hid (few_seal HF.out ovr ok on ow x)
        have HO2 := Lib.hid (opens_more_seal HO.out ovr ok on ow x)
        clear HO
        generalize madeS s3 ok on x = made2 at *
        generalize stagS s3 ovr ok on ow x = stag2 at *
        generalize sealS s3 ovr ok on ow x = s5 at *
        clear HF
        go_wp2_with fail
        refine HC.out.mono ?_
        rintro _ W7 ⟨rfl, hA, hb⟩
        have HB7 := Lib.hid (HB6.out.trans hb)
        have HA7 := Lib.hid hA
        clear hA hb HC HA6 HB6
        clear o0 o1 o2 o3 o4 o5 o6 o7
        have HF := HF2
        clear HF2
        have HO := HO2
        clear HO2
        dsimp only
        obtain ⟨o0, o1, o2, o3, o4, o5, o6, o7⟩ := HOC.out W7 HB7.out
        go_wp2_with fail
        refine (HRS.out _).mono ?_
        rintro _ _ ⟨rfl, rfl⟩
        rw [hS1]
        go_wp2_with fail
        refine (HRT.out _).mono ?_
        rintro _ _ ⟨rfl, rfl⟩
        rw [hS2]
        have HC := Lib.hid (open_st W0.heap.size eb s5 ovr ok on ow ot made stag W7 HA7.out (few_le HF.out (by omega)) hS2 (by omega) (by omega) HO.out)
        go_wp2_with fail
        refine HC.out.mono ?_
        rintro _ W8 ⟨rfl, hb⟩
        have HB8 := Lib.hid (HB7.out.trans (hb.mono HB7.out.size))
        clear hb HC HA7 HB7
        clear o0 o1 o2 o3 o4 o5 o6 o7
        obtain ⟨o0, o1, o2, o3, o4, o5, o6, o7⟩ := HOC.out W8 HB8.out
        go_wp2
        go_ret
        exact ⟨by simp, hbel0.trans (HB8.out.mono HSIZE.out)⟩
    | true =>
      cases c2 with
      | false =>
        have HA5 := Lib.hid hA5
        have HB5 := Lib.hid hb5
        clear hA5 hb5
        obtain ⟨o0, o1, o2, o3, o4, o5, o6, o7⟩ := HOC.out W5 HB5.out
        have HC := Lib.hid (sign_st W0.heap.size eb s1 ovr ok ot W5 HA5.out (few_le HF.out (by omega)) hS1 (by omega))
        have HF2 := Lib.hid (few_sign HF.out ovr ok ot)
        have HH := Lib.hid (held_sign s1 ovr ok ot)
        have HQ2 := Lib.hid (noseal_sign HQ.out ovr ok ot)
        clear HQ
        generalize tagS s1 ovr ok ot = tag at *
        generalize signS s1 ovr ok ot = s2 at *
        clear HF
        go_wp2_with fail
        refine HC.out.mono ?_
        rintro _ W6 ⟨rfl, hA, hb⟩
        have HB6 := Lib.hid (HB5.out.trans hb)
        have HA6 := Lib.hid hA
        clear hA hb HC HA5 HB5
        clear o0 o1 o2 o3 o4 o5 o6 o7
        have HF := HF2
        clear HF2
        have HQ := HQ2
        clear HQ2
        dsimp only
        obtain ⟨o0, o1, o2, o3, o4, o5, o6, o7⟩ := HOC.out W6 HB6.out
        have HC := Lib.hid (Seal_none eb ovr ok on ow ot W6 hS2)
        go_wp2_with fail
        refine HC.out.mono ?_
        rintro _ _ ⟨rfl, rfl⟩
        clear HC
        clear o0 o1 o2 o3 o4 o5 o6 o7
        dsimp only
        obtain ⟨o0, o1, o2, o3, o4, o5, o6, o7⟩ := HOC.out W6 HB6.out
        have HC := Lib.hid (sign_st W0.heap.size eb s2 ovr ok x W6 HA6.out (few_le HF.out (by omega)) hS1 (by omega))
        have HF2 := Lib.hid (few_sign HF.out ovr ok x)
        have HH2 := Lib.hid (held_more_sign HH.out ovr ok x)
        clear HH
        generalize tagS s2 ovr ok x = tag2 at *
        generalize signS s2 ovr ok x = s4 at *
        clear HF
        go_wp2_with fail
        refine HC.out.mono ?_
        rintro _ W7 ⟨rfl, hA, hb⟩
        have HB7 := Lib.hid (HB6.out.trans hb)
        have HA7 := Lib.hid hA
        clear hA hb HC HA6 HB6
        clear o0 o1 o2 o3 o4 o5 o6 o7
        have HF := HF2
        clear HF2
        have HH := HH2
        clear HH2
        dsimp only
        obtain ⟨o0, o1, o2, o3, o4, o5, o6, o7⟩ := HOC.out W7 HB7.out
        have HC := Lib.hid (Seal_none eb ovr ok on ow x W7 hS2)
        go_wp2_with fail
        refine HC.out.mono ?_
        rintro _ _ ⟨rfl, rfl⟩
        clear HC
        clear o0 o1 o2 o3 o4 o5 o6 o7
        dsimp only
        obtain ⟨o0, o1, o2, o3, o4, o5, o6, o7⟩ := HOC.out W7 HB7.out
        go_wp2_with fail
        refine (HRS.out _).mono ?_
        rintro _ _ ⟨rfl, rfl⟩
        rw [hS1]
        go_wp2_with fail
        refine (HRT.out _).mono ?_
        rintro _ _ ⟨rfl, rfl⟩
        rw [hS2]
        have HC := Lib.hid (holds_st W0.heap.size eb s4 ovr ok ot tag W7 HA7.out (few_le HF.out (by omega)) hS1 (by omega) HH.out)
        go_wp2_with fail
        refine HC.out.mono ?_
        rintro _ W8 ⟨rfl, hb⟩
        have HB8 := Lib.hid (HB7.out.trans (hb.mono HB7.out.size))
        have HA8 := Lib.hid (HA7.out.below hb)
        clear hb HC HA7 HB7
        clear o0 o1 o2 o3 o4 o5 o6 o7
        obtain ⟨o0, o1, o2, o3, o4, o5, o6, o7⟩ := HOC.out W8 HB8.out
        go_wp2
        go_ret
        exact ⟨by simp, hbel0.trans (HB8.out.mono HSIZE.out)⟩
      | true =>
        have HA5 := Lib.hid hA5
        have HB5 := Lib.hid hb5
        clear hA5 hb5
        obtain ⟨o0, o1, o2, o3, o4, o5, o6, o7⟩ := HOC.out W5 HB5.out
        have HC := Lib.hid (sign_st W0.heap.size eb s1 ovr ok ot W5 HA5.out (few_le HF.out (by omega)) hS1 (by omega))
        have HF2 := Lib.hid (few_sign HF.out ovr ok ot)
        have HH := Lib.hid (held_sign s1 ovr ok ot)
        have HQ2 := Lib.hid (noseal_sign HQ.out ovr ok ot)
        clear HQ
        generalize tagS s1 ovr ok ot = tag at *
        generalize signS s1 ovr ok ot = s2 at *
        clear HF
        go_wp2_with fail
        refine HC.out.mono ?_
        rintro _ W6 ⟨rfl, hA, hb⟩
        have HB6 := Lib.hid (HB5.out.trans hb)
        have HA6 := Lib.hid hA
        clear hA hb HC HA5 HB5
        clear o0 o1 o2 o3 o4 o5 o6 o7
        have HF := HF2
        clear HF2
        have HQ := HQ2
        clear HQ2
        dsimp only
        obtain ⟨o0, o1, o2, o3, o4, o5, o6, o7⟩ := HOC.out W6 HB6.out
        have HC := Lib.hid (seal_st W0.heap.size eb s2 ovr ok on ow ot W6 HA6.out (few_le HF.out (by omega)) hS2 (by omega) (by omega))
        have HF2 := Lib.hid (few_seal HF.out ovr ok on ow ot)
        have HH2 := Lib.hid (held_more_seal HH.out ovr ok on ow ot)
        clear HH
        have HO := Lib.hid (opens_seal HQ.out ovr ok on ow ot (seals_true hS2).2.2.1)
        clear HQ
        have hml := made_length s2 ok on ot
        generalize madeS s2 ok on ot = made at *
        generalize stagS s2 ovr ok on ow ot = stag at *
        generalize sealS s2 ovr ok on ow ot = s3 at *
        clear HF
        go_wp2_with fail
        refine HC.out.mono ?_
        rintro _ W7 ⟨rfl, hA, hb⟩
        have HB7 := Lib.hid (HB6.out.trans hb)
        have HA7 := Lib.hid hA
        clear hA hb HC HA6 HB6
        clear o0 o1 o2 o3 o4 o5 o6 o7
        have HF := HF2
        clear HF2
        have HH := HH2
        clear HH2
        dsimp only
        obtain ⟨o0, o1, o2, o3, o4, o5, o6, o7⟩ := HOC.out W7 HB7.out
        have HC := Lib.hid (sign_st W0.heap.size eb s3 ovr ok x W7 HA7.out (few_le HF.out (by omega)) hS1 (by omega))
        have HF2 := Lib.hid (few_sign HF.out ovr ok x)
        have HH2 := Lib.hid (held_more_sign HH.out ovr ok x)
        clear HH
        have HO2 := Lib.hid (opens_more_sign HO.out ovr ok x)
        clear HO
        generalize tagS s3 ovr ok x = tag2 at *
        generalize signS s3 ovr ok x = s4 at *
        clear HF
        go_wp2_with fail
        refine HC.out.mono ?_
        rintro _ W8 ⟨rfl, hA, hb⟩
        have HB8 := Lib.hid (HB7.out.trans hb)
        have HA8 := Lib.hid hA
        clear hA hb HC HA7 HB7
        clear o0 o1 o2 o3 o4 o5 o6 o7
        have HF := HF2
        clear HF2
        have HH := HH2
        clear HH2
        have HO := HO2
        clear HO2
        dsimp only
        obtain ⟨o0, o1, o2, o3, o4, o5, o6, o7⟩ := HOC.out W8 HB8.out
        have HC := Lib.hid (seal_st W0.heap.size eb s4 ovr ok on ow x W8 HA8.out (few_le HF.out (by omega)) hS2 (by omega) (by omega))
        have HF2 := Lib.hid (few_seal HF.out ovr ok on ow x)
        have HH2 := Lib.hid (held_more_seal HH.out ovr ok on ow x)
        clear HH
        have HO2 := Lib.hid (opens_more_seal HO.out ovr ok on ow x)
        clear HO
        generalize madeS s4 ok on x = made2 at *
        generalize stagS s4 ovr ok on ow x = stag2 at *
        generalize sealS s4 ovr ok on ow x = s5 at *
        clear HF
        go_wp2_with fail
        refine HC.out.mono ?_
        rintro _ W9 ⟨rfl, hA, hb⟩
        have HB9 := Lib.hid (HB8.out.trans hb)
        have HA9 := Lib.hid hA
        clear hA hb HC HA8 HB8
        clear o0 o1 o2 o3 o4 o5 o6 o7
        have HF := HF2
        clear HF2
        have HH := HH2
        clear HH2
        have HO := HO2
        clear HO2
        dsimp only
        obtain ⟨o0, o1, o2, o3, o4, o5, o6, o7⟩ := HOC.out W9 HB9.out
        go_wp2_with fail
        refine (HRS.out _).mono ?_
        rintro _ _ ⟨rfl, rfl⟩
        rw [hS1]
        go_wp2_with fail
        refine (HRT.out _).mono ?_
        rintro _ _ ⟨rfl, rfl⟩
        rw [hS2]
        have HC := Lib.hid (holds_st W0.heap.size eb s5 ovr ok ot tag W9 HA9.out (few_le HF.out (by omega)) hS1 (by omega) HH.out)
        go_wp2_with fail
        refine HC.out.mono ?_
        rintro _ W10 ⟨rfl, hb⟩
        have HB10 := Lib.hid (HB9.out.trans (hb.mono HB9.out.size))
        have HA10 := Lib.hid (HA9.out.below hb)
        clear hb HC HA9 HB9
        clear o0 o1 o2 o3 o4 o5 o6 o7
        obtain ⟨o0, o1, o2, o3, o4, o5, o6, o7⟩ := HOC.out W10 HB10.out
        have HC := Lib.hid (open_st W0.heap.size eb s5 ovr ok on ow ot made stag W10 HA10.out (few_le HF.out (by omega)) hS2 (by omega) (by omega) HO.out)
        go_wp2_with fail
        refine HC.out.mono ?_
        rintro _ W11 ⟨rfl, hb⟩
        have HB11 := Lib.hid (HB10.out.trans (hb.mono HB10.out.size))
        clear hb HC HA10 HB10
        clear o0 o1 o2 o3 o4 o5 o6 o7
        obtain ⟨o0, o1, o2, o3, o4, o5, o6, o7⟩ := HOC.out W11 HB11.out
        go_wp2
        go_ret
        exact ⟨by simp, hbel0.trans (HB11.out.mono HSIZE.out)⟩
set_option maxHeartbeats 6400000 in
set_option maxRecDepth 100000 in
theorem back_true [Inhabited Go.Proofs.YtlbpodddokhmaaaGreat.Sha.Tabs] [Inhabited Go.Proofs.YtlbpodddokhmaaaGreat.Sha.Tabs] (o : Opp) (x : List UInt8) (w : World) (hg : GlobAt w) : Calls Tryz.prog 4 #[.bool true, .agg (arr o), .string (B x)] w fun e w' => e = .returned (.bool true) ∧ Below w.heap.size w w' := by
  have H0 := Lib.hid awake_any
  have hob : (w.alloc (.cells (arr o) 31)).heap[w.heap.size]? = some (.cells (arr o) 31 (0, 0)) := heap_alloc_last w _
  have hbel0 : Below w.heap.size w (w.alloc (.cells (arr o) 31)) := by ((repeat' (with_reducible first | exact Below.refl _ _ | assumption | refine Below.drew ?_ | refine below_drewN ?_ _ | refine Below.setCell ?_ ?_ _ | refine Below.alloc ?_ ?_ _ | refine Below.ext ?_ ?_ _ | refine Below.trans ?_ (Below.mono ‹_› ?_))) <;> first | omega | (simp; done) | (simp; omega))
  have HFEW := Lib.hid fun g W h => rFew1_any g o W h
  have HG := Lib.hid fun W (hb : Below w.heap.size w W) => hg.below hb
  have hfl : few1 o = true → o.wt.length ≤ 100 ∧ o.t.length ≤ 100 := fun h => by
    simp only [few1, Bool.and_eq_true, decide_eq_true_eq] at h
    exact ⟨h.1.1.2, h.1.2⟩
  have hlx := B_size x
  obtain ⟨okd, ovr, ok, on, ow, ot, otg, obk⟩ := o
  unfold arr at *
  simp only at *
  clear hg
  go_enter Tryz.func4, Tryz.ntmps4
  go_wp2_with fail
  generalize w.alloc (.cells #[.int .u8 okd, .int .i64 ovr, .string (B ok), .string (B on), .string (B ow), .string (B ot), .string (B otg), .int .u8 obk] 31) = W0 at *
  obtain ⟨ob, hobe⟩ : ∃ ob, ob = w.heap.size := ⟨_, rfl⟩
  rw [← hobe] at hob ⊢
  have HOC := Lib.hid (show ∀ W, Below W0.heap.size W0 W → W.cell? ⟨ob, 0, none⟩ = some (.int .u8 okd) ∧ W.cell? ⟨ob, 1, none⟩ = some (.int .i64 ovr) ∧ W.cell? ⟨ob, 2, none⟩ = some (.string (B ok)) ∧ W.cell? ⟨ob, 3, none⟩ = some (.string (B on)) ∧ W.cell? ⟨ob, 4, none⟩ = some (.string (B ow)) ∧ W.cell? ⟨ob, 5, none⟩ = some (.string (B ot)) ∧ W.cell? ⟨ob, 6, none⟩ = some (.string (B otg)) ∧ W.cell? ⟨ob, 7, none⟩ = some (.int .u8 obk) from fun W hb => by
    have h := fun j => cell_of_row W _ j _ _ _ (below_heap hb (lt_of_heap hob) hob)
    exact ⟨h 0, h 1, h 2, h 3, h 4, h 5, h 6, h 7⟩)
  generalize hF : few1 ⟨okd, ovr, ok, on, ow, ot, otg, obk⟩ = bf at HFEW hfl
  have HSIZE := Lib.hid hbel0.size
  have HGW := Lib.hid fun W (hb : Below W0.heap.size W0 W) => HG.out W (hbel0.trans (hb.mono HSIZE.out))
  clear hF hob HG
  clear hobe
  refine Calls.below (H0.out _) fun W1 hW1 => ?_
  obtain ⟨o0, o1, o2, o3, o4, o5, o6, o7⟩ := HOC.out W1 hW1
  go_wp2_with fail
  have hb1 : Below W0.heap.size W0 (W1.alloc (.cells #[.int .u8 okd, .int .i64 ovr, .string (B ok), .string (B on), .string (B ow), .string (B ot), .string (B otg), .int .u8 obk] 31)) := hW1.alloc hW1.size _
  refine Calls.below (HFEW.out _ _ (heap_alloc_last W1 (.cells #[.int .u8 okd, .int .i64 ovr, .string (B ok), .string (B on), .string (B ow), .string (B ot), .string (B otg), .int .u8 obk] 31))) fun W2 hW2 => ?_
  have hb2 := hb1.trans (hW2.mono hb1.size)
  clear o0 o1 o2 o3 o4 o5 o6 o7
  clear hW1 hb1 hW2
  cases bf with
  | false =>
    go_wp2_with fail
    refine Calls.below (H0.out _) fun W3 hW3 => ?_
    have hb3 := hb2.trans (hW3.mono hb2.size)
    go_wp2
    go_ret
    exact ⟨rfl, hbel0.trans (hb3.mono HSIZE.out)⟩
  | true =>
    obtain ⟨how, hot⟩ := hfl rfl
    clear hfl HFEW
    by_cases hx : (x.length : Int) ≤ 100
    case neg =>
      go_wp2_with fail
      refine Calls.below (H0.out _) fun W3 hW3 => ?_
      have hb3 := hb2.trans (hW3.mono hb2.size)
      go_wp2
      go_ret
      exact ⟨rfl, hbel0.trans (hb3.mono HSIZE.out)⟩
    go_wp2_with fail
    refine (real_any _).mono ?_
    rintro _ W3 ⟨rfl, hW3⟩
    have hb3 : Below W0.heap.size W0 W3 := by rw [← hW3]; exact hb2.alloc hb2.size _
    have hre : W3.cell? ⟨W2.heap.size, 0, none⟩ = some (.iface 51 (.agg #[])) := by rw [← hW3, cell_of_row _ _ 0 _ _ _ (heap_alloc_last W2 _)]; rfl
    have hle2 := hb2.size
    clear hW3 hre hle2
    go_wp2_with fail
    refine (ideal_any _).mono ?_
    rintro _ W4 ⟨rfl, hW4⟩
    have hle3 := hb3.size
    have hb4 : Below W0.heap.size W0 W4 := by rw [← hW4]; exact (hb3.alloc hle3 _).alloc (by simp; omega) _
    have hib0 : W4.heap[W3.heap.size]? = some (.cells #[.slice none 0 0] 59 (0, 0)) := by rw [← hW4]; exact heap_under (heap_alloc_last W3 _)
    have heb0 : W4.cell? ⟨W3.heap.size + 1, 0, none⟩ = some (.iface 56 (.pointer (some ⟨W3.heap.size, 0, none⟩))) := by
      rw [← hW4, cell_of_row _ _ 0 _ _ _ (heap_at (by simp))]
      rfl
    have hA0 : At W4 W0.heap.size (W3.heap.size + 1) (some []) := ⟨W3.heap.size, .slice none 0 0, heb0, ⟨hib0, World.ownsRow_nil _ _ _ _⟩, hle3, by omega⟩
    obtain ⟨s0, hs0⟩ : ∃ s : St, s = some [] := ⟨_, rfl⟩
    rw [← hs0] at hA0
    have hf0 : few s0 0 := by rw [hs0]; exact Nat.le_refl 0
    have hq0 : NoSeal s0 := by rw [hs0]; intro e he; simp at he
    obtain ⟨eb, heb⟩ : ∃ eb, eb = W3.heap.size + 1 := ⟨_, rfl⟩
    rw [← heb] at hA0 ⊢
    clear hW4 hib0 heb0 heb hs0 hle3 hb3 hb2
    have HRS := Lib.hid fun W => rSigns_all ovr ok W
    have HRT := Lib.hid fun W => rSeals_all ovr ok on W
    have hn0 : x.length ≤ 1000 := by omega
    have HC := Lib.hid (show Calls Tryz.prog 10 #[.pointer (some ⟨eb, 0, none⟩), .int .i64 5, .string ⟨#[107]⟩, .string (B x)] W4 _ from sign_st W0.heap.size eb s0 5 [107] x W4 hA0 (few_le hf0 (by omega)) (by decide) hn0)
    have HF := Lib.hid (few_sign hf0 5 [107] x)
    have HQ := Lib.hid (noseal_sign hq0 5 [107] x)
    generalize tagS s0 5 [107] x = tag0 at *
    generalize signS s0 5 [107] x = s1 at *
    clear hA0 hf0 hq0
    go_wp2_with fail
    refine HC.out.mono ?_
    rintro _ W5 ⟨rfl, hA5, hb45⟩
    have hb5 := hb4.trans hb45
    clear HC hb45 hb4
    dsimp only
    obtain ⟨c1, hS1⟩ : ∃ c, signsB ovr ok = c := ⟨_, rfl⟩
    obtain ⟨c2, hS2⟩ : ∃ c, sealsB ovr ok on = c := ⟨_, rfl⟩
    cases c1 with
    | false =>
      cases c2 with
      | false =>
        have HA5 := Lib.hid hA5
        have HB5 := Lib.hid hb5
        clear hA5 hb5
        obtain ⟨o0, o1, o2, o3, o4, o5, o6, o7⟩ := HOC.out W5 HB5.out
        have HC := Lib.hid (Sign_none eb ovr ok ot W5 hS1)
        go_wp2_with fail
        refine HC.out.mono ?_
        rintro _ _ ⟨rfl, rfl⟩
        clear HC
        clear o0 o1 o2 o3 o4 o5 o6 o7
        dsimp only
        obtain ⟨o0, o1, o2, o3, o4, o5, o6, o7⟩ := HOC.out W5 HB5.out
        have HC := Lib.hid (Seal_none eb ovr ok on ow ot W5 hS2)
        go_wp2_with fail
        refine HC.out.mono ?_
        rintro _ _ ⟨rfl, rfl⟩
        clear HC
        clear o0 o1 o2 o3 o4 o5 o6 o7
        dsimp only
        obtain ⟨o0, o1, o2, o3, o4, o5, o6, o7⟩ := HOC.out W5 HB5.out
        have HC := Lib.hid (Sign_none eb ovr ok x W5 hS1)
        go_wp2_with fail
        refine HC.out.mono ?_
        rintro _ _ ⟨rfl, rfl⟩
        clear HC
        clear o0 o1 o2 o3 o4 o5 o6 o7
        dsimp only
        obtain ⟨o0, o1, o2, o3, o4, o5, o6, o7⟩ := HOC.out W5 HB5.out
        have HC := Lib.hid (Seal_none eb ovr ok on ow x W5 hS2)
        go_wp2_with fail
        refine HC.out.mono ?_
        rintro _ _ ⟨rfl, rfl⟩
        clear HC
        clear o0 o1 o2 o3 o4 o5 o6 o7
        dsimp only
        obtain ⟨o0, o1, o2, o3, o4, o5, o6, o7⟩ := HOC.out W5 HB5.out
        go_wp2_with fail
        refine (HRS.out _).mono ?_
        rintro _ _ ⟨rfl, rfl⟩
        rw [hS1]
        go_wp2_with fail
        refine (HRT.out _).mono ?_
        rintro _ _ ⟨rfl, rfl⟩
        rw [hS2]
        go_wp2
        go_ret
        exact ⟨by simp, hbel0.trans (HB5.out.mono HSIZE.out)⟩
      | true =>
        have HA5 := Lib.hid hA5
        have HB5 := Lib.hid hb5
        clear hA5 hb5
        obtain ⟨o0, o1, o2, o3, o4, o5, o6, o7⟩ := HOC.out W5 HB5.out
        have HC := Lib.hid (Sign_none eb ovr ok ot W5 hS1)
        go_wp2_with fail
        refine HC.out.mono ?_
        rintro _ _ ⟨rfl, rfl⟩
        clear HC
        clear o0 o1 o2 o3 o4 o5 o6 o7
        dsimp only
        obtain ⟨o0, o1, o2, o3, o4, o5, o6, o7⟩ := HOC.out W5 HB5.out
        have HC := Lib.hid (seal_st W0.heap.size eb s1 ovr ok on ow ot W5 HA5.out (few_le HF.out (by omega)) hS2 (by omega) (by omega))
        have HF2 := Lib.hid (few_seal HF.out ovr ok on ow ot)
        have HO := Lib.hid (opens_seal HQ.out ovr ok on ow ot (seals_true hS2).2.2.1)
        clear HQ
        have hml := made_length s1 ok on ot
        generalize madeS s1 ok on ot = made at *
        generalize stagS s1 ovr ok on ow ot = stag at *
        generalize sealS s1 ovr ok on ow ot = s3 at *
        clear HF
        go_wp2_with fail
        refine HC.out.mono ?_
        rintro _ W6 ⟨rfl, hA, hb⟩
        have HB6 := Lib.hid (HB5.out.trans hb)
        have HA6 := Lib.hid hA
        clear hA hb HC HA5 HB5
        clear o0 o1 o2 o3 o4 o5 o6 o7
        have HF := HF2
        clear HF2
        dsimp only
        obtain ⟨o0, o1, o2, o3, o4, o5, o6, o7⟩ := HOC.out W6 HB6.out
        have HC := Lib.hid (Sign_none eb ovr ok x W6 hS1)
        go_wp2_with fail
        refine HC.out.mono ?_
        rintro _ _ ⟨rfl, rfl⟩
        clear HC
        clear o0 o1 o2 o3 o4 o5 o6 o7
        dsimp only
        obtain ⟨o0, o1, o2, o3, o4, o5, o6, o7⟩ := HOC.out W6 HB6.out
        have HC := Lib.hid (seal_st W0.heap.size eb s3 ovr ok on ow x W6 HA6.out (few_le HF.out (by omega)) hS2 (by omega) (by omega))
        have HF2 := Lib.hid (few_seal HF.out ovr ok on ow x)
        have HO2 := Lib.hid (opens_more_seal HO.out ovr ok on ow x)
        clear HO
        generalize madeS s3 ok on x = made2 at *
        generalize stagS s3 ovr ok on ow x = stag2 at *
        generalize sealS s3 ovr ok on ow x = s5 at *
        clear HF
        go_wp2_with fail
        refine HC.out.mono ?_
        rintro _ W7 ⟨rfl, hA, hb⟩
        have HB7 := Lib.hid (HB6.out.trans hb)
        have HA7 := Lib.hid hA
        clear hA hb HC HA6 HB6
        clear o0 o1 o2 o3 o4 o5 o6 o7
        have HF := HF2
        clear HF2
        have HO := HO2
        clear HO2
        dsimp only
        obtain ⟨o0, o1, o2, o3, o4, o5, o6, o7⟩ := HOC.out W7 HB7.out
        go_wp2_with fail
        refine (HRS.out _).mono ?_
        rintro _ _ ⟨rfl, rfl⟩
        rw [hS1]
        go_wp2_with fail
        refine (HRT.out _).mono ?_
        rintro _ _ ⟨rfl, rfl⟩
        rw [hS2]
        have HC := Lib.hid (open_st W0.heap.size eb s5 ovr ok on ow ot made stag W7 HA7.out (few_le HF.out (by omega)) hS2 (by omega) (by omega) HO.out)
        go_wp2_with fail
        refine HC.out.mono ?_
        rintro _ W8 ⟨rfl, hb⟩
        have HB8 := Lib.hid (HB7.out.trans (hb.mono HB7.out.size))
        clear hb HC HA7 HB7
        clear o0 o1 o2 o3 o4 o5 o6 o7
        obtain ⟨o0, o1, o2, o3, o4, o5, o6, o7⟩ := HOC.out W8 HB8.out
        go_wp2
        go_ret
        exact ⟨by simp, hbel0.trans (HB8.out.mono HSIZE.out)⟩
    | true =>
      cases c2 with
      | false =>
        have HA5 := Lib.hid hA5
        have HB5 := Lib.hid hb5
        clear hA5 hb5
        obtain ⟨o0, o1, o2, o3, o4, o5, o6, o7⟩ := HOC.out W5 HB5.out
        have HC := Lib.hid (sign_st W0.heap.size eb s1 ovr ok ot W5 HA5.out (few_le HF.out (by omega)) hS1 (by omega))
        have HF2 := Lib.hid (few_sign HF.out ovr ok ot)
        have HH := Lib.hid (held_sign s1 ovr ok ot)
        have HQ2 := Lib.hid (noseal_sign HQ.out ovr ok ot)
        clear HQ
        generalize tagS s1 ovr ok ot = tag at *
        generalize signS s1 ovr ok ot = s2 at *
        clear HF
        go_wp2_with fail
        refine HC.out.mono ?_
        rintro _ W6 ⟨rfl, hA, hb⟩
        have HB6 := Lib.hid (HB5.out.trans hb)
        have HA6 := Lib.hid hA
        clear hA hb HC HA5 HB5
        clear o0 o1 o2 o3 o4 o5 o6 o7
        have HF := HF2
        clear HF2
        have HQ := HQ2
        clear HQ2
        dsimp only
        obtain ⟨o0, o1, o2, o3, o4, o5, o6, o7⟩ := HOC.out W6 HB6.out
        have HC := Lib.hid (Seal_none eb ovr ok on ow ot W6 hS2)
        go_wp2_with fail
        refine HC.out.mono ?_
        rintro _ _ ⟨rfl, rfl⟩
        clear HC
        clear o0 o1 o2 o3 o4 o5 o6 o7
        dsimp only
        obtain ⟨o0, o1, o2, o3, o4, o5, o6, o7⟩ := HOC.out W6 HB6.out
        have HC := Lib.hid (sign_st W0.heap.size eb s2 ovr ok x W6 HA6.out (few_le HF.out (by omega)) hS1 (by omega))
        have HF2 := Lib.hid (few_sign HF.out ovr ok x)
        have HH2 := Lib.hid (held_more_sign HH.out ovr ok x)
        clear HH
        generalize tagS s2 ovr ok x = tag2 at *
        generalize signS s2 ovr ok x = s4 at *
        clear HF
        go_wp2_with fail
        refine HC.out.mono ?_
        rintro _ W7 ⟨rfl, hA, hb⟩
        have HB7 := Lib.hid (HB6.out.trans hb)
        have HA7 := Lib.hid hA
        clear hA hb HC HA6 HB6
        clear o0 o1 o2 o3 o4 o5 o6 o7
        have HF := HF2
        clear HF2
        have HH := HH2
        clear HH2
        dsimp only
        obtain ⟨o0, o1, o2, o3, o4, o5, o6, o7⟩ := HOC.out W7 HB7.out
        have HC := Lib.hid (Seal_none eb ovr ok on ow x W7 hS2)
        go_wp2_with fail
        refine HC.out.mono ?_
        rintro _ _ ⟨rfl, rfl⟩
        clear HC
        clear o0 o1 o2 o3 o4 o5 o6 o7
        dsimp only
        obtain ⟨o0, o1, o2, o3, o4, o5, o6, o7⟩ := HOC.out W7 HB7.out
        go_wp2_with fail
        refine (HRS.out _).mono ?_
        rintro _ _ ⟨rfl, rfl⟩
        rw [hS1]
        go_wp2_with fail
        refine (HRT.out _).mono ?_
        rintro _ _ ⟨rfl, rfl⟩
        rw [hS2]
        have HC := Lib.hid (holds_st W0.heap.size eb s4 ovr ok ot tag W7 HA7.out (few_le HF.out (by omega)) hS1 (by omega) HH.out)
        go_wp2_with fail
        refine HC.out.mono ?_
        rintro _ W8 ⟨rfl, hb⟩
        have HB8 := Lib.hid (HB7.out.trans (hb.mono HB7.out.size))
        have HA8 := Lib.hid (HA7.out.below hb)
        clear hb HC HA7 HB7
        clear o0 o1 o2 o3 o4 o5 o6 o7
        obtain ⟨o0, o1, o2, o3, o4, o5, o6, o7⟩ := HOC.out W8 HB8.out
        go_wp2
        go_ret
        exact ⟨by simp, hbel0.trans (HB8.out.mono HSIZE.out)⟩
      | true =>
        have HA5 := Lib.hid hA5
        have HB5 := Lib.hid hb5
        clear hA5 hb5
        obtain ⟨o0, o1, o2, o3, o4, o5, o6, o7⟩ := HOC.out W5 HB5.out
        have HC := Lib.hid (sign_st W0.heap.size eb s1 ovr ok ot W5 HA5.out (few_le HF.out (by omega)) hS1 (by omega))
        have HF2 := Lib.hid (few_sign HF.out ovr ok ot)
        have HH := Lib.hid (held_sign s1 ovr ok ot)
        have HQ2 := Lib.hid (noseal_sign HQ.out ovr ok ot)
        clear HQ
        generalize tagS s1 ovr ok ot = tag at *
        generalize signS s1 ovr ok ot = s2 at *
        clear HF
        go_wp2_with fail
        refine HC.out.mono ?_
        rintro _ W6 ⟨rfl, hA, hb⟩
        have HB6 := Lib.hid (HB5.out.trans hb)
        have HA6 := Lib.hid hA
        clear hA hb HC HA5 HB5
        clear o0 o1 o2 o3 o4 o5 o6 o7
        have HF := HF2
        clear HF2
        have HQ := HQ2
        clear HQ2
        dsimp only
        obtain ⟨o0, o1, o2, o3, o4, o5, o6, o7⟩ := HOC.out W6 HB6.out
        have HC := Lib.hid (seal_st W0.heap.size eb s2 ovr ok on ow ot W6 HA6.out (few_le HF.out (by omega)) hS2 (by omega) (by omega))
        have HF2 := Lib.hid (few_seal HF.out ovr ok on ow ot)
        have HH2 := Lib.hid (held_more_seal HH.out ovr ok on ow ot)
        clear HH
        have HO := Lib.hid (opens_seal HQ.out ovr ok on ow ot (seals_true hS2).2.2.1)
        clear HQ
        have hml := made_length s2 ok on ot
        generalize madeS s2 ok on ot = made at *
        generalize stagS s2 ovr ok on ow ot = stag at *
        generalize sealS s2 ovr ok on ow ot = s3 at *
        clear HF
        go_wp2_with fail
        refine HC.out.mono ?_
        rintro _ W7 ⟨rfl, hA, hb⟩
        have HB7 := Lib.hid (HB6.out.trans hb)
        have HA7 := Lib.hid hA
        clear hA hb HC HA6 HB6
        clear o0 o1 o2 o3 o4 o5 o6 o7
        have HF := HF2
        clear HF2
        have HH := HH2
        clear HH2
        dsimp only
        obtain ⟨o0, o1, o2, o3, o4, o5, o6, o7⟩ := HOC.out W7 HB7.out
        have HC := Lib.hid (sign_st W0.heap.size eb s3 ovr ok x W7 HA7.out (few_le HF.out (by omega)) hS1 (by omega))
        have HF2 := Lib.hid (few_sign HF.out ovr ok x)
        have HH2 := Lib.hid (held_more_sign HH.out ovr ok x)
        clear HH
        have HO2 := Lib.hid (opens_more_sign HO.out ovr ok x)
        clear HO
        generalize tagS s3 ovr ok x = tag2 at *
        generalize signS s3 ovr ok x = s4 at *
        clear HF
        go_wp2_with fail
        refine HC.out.mono ?_
        rintro _ W8 ⟨rfl, hA, hb⟩
        have HB8 := Lib.hid (HB7.out.trans hb)
        have HA8 := Lib.hid hA
        clear hA hb HC HA7 HB7
        clear o0 o1 o2 o3 o4 o5 o6 o7
        have HF := HF2
        clear HF2
        have HH := HH2
        clear HH2
        have HO := HO2
        clear HO2
        dsimp only
        obtain ⟨o0, o1, o2, o3, o4, o5, o6, o7⟩ := HOC.out W8 HB8.out
        have HC := Lib.hid (seal_st W0.heap.size eb s4 ovr ok on ow x W8 HA8.out (few_le HF.out (by omega)) hS2 (by omega) (by omega))
        have HF2 := Lib.hid (few_seal HF.out ovr ok on ow x)
        have HH2 := Lib.hid (held_more_seal HH.out ovr ok on ow x)
        clear HH
        have HO2 := Lib.hid (opens_more_seal HO.out ovr ok on ow x)
        clear HO
        generalize madeS s4 ok on x = made2 at *
        generalize stagS s4 ovr ok on ow x = stag2 at *
        generalize sealS s4 ovr ok on ow x = s5 at *
        clear HF
        go_wp2_with fail
        refine HC.out.mono ?_
        rintro _ W9 ⟨rfl, hA, hb⟩
        have HB9 := Lib.hid (HB8.out.trans hb)
        have HA9 := Lib.hid hA
        clear hA hb HC HA8 HB8
        clear o0 o1 o2 o3 o4 o5 o6 o7
        have HF := HF2
        clear HF2
        have HH := HH2
        clear HH2
        have HO := HO2
        clear HO2
        dsimp only
        obtain ⟨o0, o1, o2, o3, o4, o5, o6, o7⟩ := HOC.out W9 HB9.out
        go_wp2_with fail
        refine (HRS.out _).mono ?_
        rintro _ _ ⟨rfl, rfl⟩
        rw [hS1]
        go_wp2_with fail
        refine (HRT.out _).mono ?_
        rintro _ _ ⟨rfl, rfl⟩
        rw [hS2]
        have HC := Lib.hid (holds_st W0.heap.size eb s5 ovr ok ot tag W9 HA9.out (few_le HF.out (by omega)) hS1 (by omega) HH.out)
        go_wp2_with fail
        refine HC.out.mono ?_
        rintro _ W10 ⟨rfl, hb⟩
        have HB10 := Lib.hid (HB9.out.trans (hb.mono HB9.out.size))
        have HA10 := Lib.hid (HA9.out.below hb)
        clear hb HC HA9 HB9
        clear o0 o1 o2 o3 o4 o5 o6 o7
        obtain ⟨o0, o1, o2, o3, o4, o5, o6, o7⟩ := HOC.out W10 HB10.out
        have HC := Lib.hid (open_st W0.heap.size eb s5 ovr ok on ow ot made stag W10 HA10.out (few_le HF.out (by omega)) hS2 (by omega) (by omega) HO.out)
        go_wp2_with fail
        refine HC.out.mono ?_
        rintro _ W11 ⟨rfl, hb⟩
        have HB11 := Lib.hid (HB10.out.trans (hb.mono HB10.out.size))
        clear hb HC HA10 HB10
        clear o0 o1 o2 o3 o4 o5 o6 o7
        obtain ⟨o0, o1, o2, o3, o4, o5, o6, o7⟩ := HOC.out W11 HB11.out
        go_wp2
        go_ret
        exact ⟨by simp, hbel0.trans (HB11.out.mono HSIZE.out)⟩
set_option maxRecDepth 100000 in
theorem walk (W : World) (base : Nat) (args : Array Value) {H : Type} {enc : TypeId × Value → H} (ds : List (DataW H)) (ps : List MemPlace) (hsh : W.ShapedOpen Tryz.prog)
    (hval : ∀ (j : Nat) t v, Tryz.f4.params[j]? = some t → args[j]? = some v → Value.okWide Tryz.prog W .any base t v)
    (hA : DataW.TrodAll enc Tryz.prog W 0 (fun _ => true) true Tryz.f4.params.toList args.toList ds ps) (hlt : ∀ p ∈ ps, p.block < W.heap.size) :
    Calls Tryz.prog 4 args W fun e W' => e = .returned (.bool true) ∧ Below W.heap.size W W' := by
  rw [Tryz.params4] at hA hval
  obtain ⟨T, hg⟩ := glob_open hsh
  letI : Inhabited Go.Proofs.YtlbpodddokhmaaaGreat.Sha.Tabs := ⟨T⟩
  obtain ⟨v0, v1, v2, d0, d1, d2, p, q, r, rfl, rfl, rfl, h0, h1, h2⟩ := trodAll_three hA
  obtain ⟨b, rfl, rfl, rfl⟩ := open_bool Tryz.underlying4 (hval 0 4 v0 rfl rfl) h0
  obtain ⟨csx, rfl, hallx⟩ := open_flat [5, 3, 9, 9, 9, 9, 9, 5] (hval 1 31 v1 rfl rfl) h1 (fun p hp => hlt p (by simp [hp])) (by kernel_rfl) (by kernel_rfl) (by kernel_rfl)
  obtain ⟨x1, xr1, rfl, xl1, x2, xr2, rfl, xl2, x3, xr3, rfl, xl3, x4, xr4, rfl, xl4, x5, xr5, rfl, xl5, x6, xr6, rfl, xl6, x7, xr7, rfl, xl7, x8, xr8, rfl, xl8, rfl⟩ := hallx
  obtain ⟨xa, rfl, -⟩ := xl1.int Tryz.underlying5
  obtain ⟨xb, rfl, -⟩ := xl2.int Tryz.underlying3
  obtain ⟨xc, rfl, -⟩ := xl3.str Tryz.underlying9
  obtain ⟨xd, rfl, -⟩ := xl4.str Tryz.underlying9
  obtain ⟨xe, rfl, -⟩ := xl5.str Tryz.underlying9
  obtain ⟨xf, rfl, -⟩ := xl6.str Tryz.underlying9
  obtain ⟨xg, rfl, -⟩ := xl7.str Tryz.underlying9
  obtain ⟨xh, rfl, -⟩ := xl8.int Tryz.underlying5
  obtain ⟨t, rfl, -⟩ := open_str Tryz.underlying9 (hval 2 9 v2 rfl rfl) h2 (fun p hp => hlt p (by simp [hp]))
  cases b with
  | false => exact back_false ⟨xa, xb, xc, xd, xe, xf, xg, xh⟩ t W hg
  | true => exact back_true ⟨xa, xb, xc, xd, xe, xf, xg, xh⟩ t W hg
set_option maxRecDepth 100000 in
theorem lifted (os : Os) (started : os.Started) (H : Type) (enc : TypeId × Value → H) :
    ReturnsInHanded {} Tryz.checked os 4 .any (Rows.engineBackSpec.pre6 enc Tryz.prog Tryz.f4 Rows.engineBackRow.domain false) (Rows.engineBackSpec.post enc Tryz.prog Tryz.f4 false true false false) :=
  law_lift_open (C := Tryz.checked) (tb := 4) (by kernel_rfl) started (by kernel_rfl) Tryz.func4
    (ChangeSpec.witness6 (enc := enc) (C := Tryz.checked) false ⟨#[], #[.bool false, .agg #[.int .u8 0, .int .i64 0, .string ⟨#[]⟩, .string ⟨#[]⟩, .string ⟨#[]⟩, .string ⟨#[]⟩, .string ⟨#[]⟩, .int .u8 0], .string ⟨#[]⟩], []⟩ 8 (by kernel_rfl) (by kernel_rfl) (by kernel_rfl) (by kernel_rfl))
    (by kernel_rfl) (by kernel_rfl) rfl (by kernel_rfl) Tryz.underlying4 (fun ds h => by match ds, h with | [_, _, _], _ => exact ⟨rfl, rfl, rfl⟩)
    (fun W base args ds ps hsh hval hA hlt => walk W base args ds ps hsh hval hA hlt)
theorem over : Rows.engineBackRow.holds Tryz.pinned (OpenSpec.ofChange Rows.engineBackSpec) :=
  OpenClaim.holds_of_wide 4 Tryz.f4 rfl rfl rfl rfl rfl rfl rfl ⟨rfl, rfl, rfl, rfl, rfl⟩ rfl rfl rfl rfl rfl (by kernel_rfl) Tryz.func4 (by kernel_rfl)
    (of_decide_eq_true (by kernel_rfl)) (by unfold Func.isWrapper; rw [if_neg (of_decide_eq_false (by kernel_rfl))]; exact ⟨rfl, rfl⟩)
    (fun os started H enc _ => lifted os started H enc)
theorem proved : Rows.EngineBackSaid := over
#print axioms proved
end Go.Proofs.YtlbpodddokhmaaaGreat.EngineBack
