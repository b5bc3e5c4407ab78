/-
  HmacParts: the code does not depend on the division into parts.
  Conditions: none (the package's two tables are as the program's text lays them: the card ties that).
-/
import Derived.Test.YtpgadpnaekhiaaaDoorRsE
import Derived.Test.YtpgadpnaekhiaaaDoorOpen
import Derived.Test.YtpgadpnaekhiaaaDoorOpen2
import Derived.Test.YtpgadpnaekhiaaaDoorTie
import Derived.Test.YtpgadpnaekhiaaaDoorCards
import Derived.SevenTiedAt
import Derived.SliceStrings
namespace Go.Proofs.YtpgadpnaekhiaaaDoor.HmacParts
open Go.ChangeShapes Go.WideShapes Go.ChangeAt Go.RowKit Go.Deep Go.Proofs.YtpgadpnaekhiaaaDoor.Hm
open Go.Proofs.YtpgadpnaekhiaaaDoor.Sha (GlobAt zeros zeros_length)
theorem join_flat (xs : List (List UInt8)) : Lib.join xs [] = xs.flatten := by
  cases xs with
  | nil => rfl
  | cons x r =>
    rw [Lib.join_cons]
    simp [Lib.joinTail]
/-- Parts, joined. -/
theorem joined_any (W : World) (b o c : Nat) (ss : List (List UInt8)) (hc : ∀ j s, ss[j]? = some s → W.cell? ⟨b, o + j, none⟩ = some (.string (B s))) (hb : b < W.heap.size) (hn : ss.length ≤ 1000000) (hcap : ss.length ≤ c) (hl : ss.flatten.length ≤ 1000000) :
    Calls Tryd.prog 24 #[.slice (some ⟨b, o, none⟩) ss.length c, .string ⟨#[]⟩] W fun e w' => e = .returned (.string (B ss.flatten)) ∧ Below W.heap.size W w' := by
  have e1 : (ss.map B).map (·.data.toList) = ss := by
    rw [List.map_map]
    conv => rhs; rw [← List.map_id ss]
    apply List.map_congr_left
    intro x _
    rfl
  have e2 : (ByteArray.mk #[]).data.toList = [] := rfl
  have h := Tryd.strings_Join b o c (ss.map B) ⟨#[]⟩ W (fun j x hx => by
    rw [List.getElem?_map, Option.map_eq_some_iff] at hx
    obtain ⟨s, hs, rfl⟩ := hx
    exact hc j s hs) hb (by rw [List.length_map]; omega) (by rw [List.length_map]; exact hcap) (by rw [e1, e2, join_flat]; omega)
  rw [e1, e2, join_flat, List.length_map] at h
  exact h
/-- The parts as they came in: none, or a row of strings. -/
def PartsAt (w : World) (v : Value) (ss : List (List UInt8)) : Prop :=
  ∃ a c, v = .slice a ss.length c ∧ (ss = [] ∨ ∃ b o, a = some ⟨b, o, none⟩ ∧ b < w.heap.size ∧ ss.length ≤ c ∧ ∀ j s, ss[j]? = some s → w.cell? ⟨b, o + j, none⟩ = some (.string (B s)))
theorem PartsAt.join {w : World} {v : Value} {ss : List (List UInt8)} (h : PartsAt w v ss) (hn : ss.length ≤ 1000000) (hl : ss.flatten.length ≤ 1000000) (W : World) (hW : Below w.heap.size w W) :
    Calls Tryd.prog 24 #[v, .string ⟨#[]⟩] W fun e w' => e = .returned (.string (B ss.flatten)) ∧ Below W.heap.size W w' := by
  obtain ⟨a, c, rfl, h | ⟨b, o, rfl, hb, hc, hcell⟩⟩ := h
  · subst h
    refine (Tryd.strings_Join_none a c ⟨#[]⟩ W).mono ?_
    rintro _ _ ⟨rfl, rfl⟩
    exact ⟨rfl, Below.refl _ _⟩
  · exact joined_any W b o c ss (fun j s hs => by rw [hW.cell (p := ⟨b, o + j, none⟩) hb]; exact hcell j s hs) (Nat.lt_of_lt_of_le hb hW.size) hn hc hl
/-- The code of a text in two parts. -/
theorem hmac_two (size : Nat) (key s t : List UInt8) (b : Nat) (w : World) (h : Hm.Good size) (hg : GlobAt w) (hk : key.length ≤ 1000000) (ht : s.length + t.length ≤ 900000) (hc : w.cell? ⟨b, 0, none⟩ = some (.string (B s))) (hc2 : w.cell? ⟨b, 1, none⟩ = some (.string (B t))) :
    Calls Tryd.prog 13 #[.int .i64 size, .string (B key), .slice (some ⟨b, 0, none⟩) 2 2] w fun e w' => e = .returned (.string (B (hmacB size key (s ++ t)))) ∧ Below w.heap.size w w' := by
  have hb := World.block_lt_of_cell? w ⟨b, 0, none⟩ hc
  refine hmac_any size key (s ++ t) _ w h hg hk (by rw [List.length_append]; omega) fun W hW => ?_
  have := joined_any W b 0 2 [s, t] (fun j x hx => by
    match j, hx with
    | 0, hx => cases hx; rw [hW.cell (p := ⟨b, 0, none⟩) hb]; exact hc
    | 1, hx => cases hx; rw [hW.cell (p := ⟨b, 1, none⟩) hb]; exact hc2
    | j + 2, hx => cases hx) (Nat.lt_of_lt_of_le hb hW.size) (by simp) (by simp) (by simp; omega)
  simpa using this
theorem open_parts {P : Program} {w : World} {base : Nat} {H : Type} {enc : TypeId × Value → H} {t e : TypeId} {v : Value} {d : DataW H} {ps : List MemPlace} (ht : P.underlying t = some (.slice e)) (he : P.underlying e = some .string) (hc : P.cellsOf e = 1) (hv : Value.okWide P w .any base t v)
    (h : DataW.Trod enc P w 0 (fun _ => true) true t v d ps) : ∃ ss, PartsAt w v ss := by
  obtain ⟨a0, len, cap, rfl⟩ := okWide_slice ht hv
  obtain ⟨fuel, hf⟩ := h
  rcases open_strings ht he hc hf with ⟨hcs, hx⟩ | ⟨a, len', cap', ss, hcs, _, hl, hm, hz, hx, hcell, hsz⟩
  · have e1 : (Value.slice a0 len cap).cells = #[.slice a0 len cap] := rfl
    rw [e1] at hcs
    simp only [List.cons.injEq, and_true, Value.slice.injEq] at hcs
    obtain ⟨rfl, rfl, rfl⟩ := hcs
    exact ⟨[], none, 0, rfl, .inl rfl⟩
  · have e1 : (Value.slice a0 len cap).cells = #[.slice a0 len cap] := rfl
    rw [e1] at hcs
    simp only [List.cons.injEq, and_true, Value.slice.injEq] at hcs
    obtain ⟨rfl, rfl, rfl⟩ := hcs
    rw [if_pos rfl] at hz
    have e2 : ((ss.take len).map fun s : ByteArray => s.data.toList).length = len := by rw [List.length_map, List.length_take]; omega
    refine ⟨(ss.take len).map fun s => s.data.toList, some a, cap, by rw [e2], ?_⟩
    by_cases h0 : len = 0
    · left; subst h0; simp
    · right
      have hc0 := hcell 0 (by omega)
      have hadd : ∀ j, a.add j = ⟨a.block, a.off + j, none⟩ := fun j => by
        have hs : a.spot = none := by
          have h1 : w.cell? a = some (.string (ss.getD 0 ByteArray.empty)) := by simpa [Addr.add] using hc0
          unfold World.cell? at h1
          split at h1
          · split at h1
            · cases h1
            · next hs => simpa using hs
          · cases h1
        unfold Addr.add
        split
        · next hj => subst hj; cases a; simp at hs; subst hs; rfl
        · rfl
      refine ⟨a.block, a.off, congrArg some (by have h9 := hadd 0; simpa [Addr.add] using h9), World.block_lt_of_cell? w (a.add 0) hc0, by rw [e2]; exact hl, fun j s hs => ?_⟩
      rw [List.getElem?_map, Option.map_eq_some_iff] at hs
      obtain ⟨u, hu, rfl⟩ := hs
      rw [List.getElem?_take] at hu
      split at hu
      · next hj =>
        rw [← hadd j, hcell j (by omega)]
        simp only [List.getD, hu, Option.getD_some]
        rfl
      · cases hu
set_option maxHeartbeats 1600000 in
set_option maxRecDepth 100000 in
theorem parts_law (c : Nat) (key : List UInt8) (v : Value) (ss : List (List UInt8)) (w : World) (hg : GlobAt w) (_hk : key.length ≤ maxLen) (hp : PartsAt w v ss) :
    Calls Tryd.prog 5 #[.int .u8 (c : Int), .string (B key), v] w fun e w' => e = .returned (.bool true) ∧ Below w.heap.size w w' := by
  have H0 := Lib.hid awake6_any
  have HG := Lib.hid hg
  clear hg
  have HP := Lib.hid hp
  obtain ⟨a, cap, rfl, hp⟩ := hp
  obtain ⟨n, hn⟩ : ∃ n, ss.length = n := ⟨_, rfl⟩
  rw [hn] at HP ⊢
  by_cases h5 : (key.length : Int) ≤ 200 ∧ (n : Int) ≤ 20
  · obtain ⟨hk2, hn20⟩ := h5
    have hgd := size_good (c % 3) (Nat.mod_lt _ (by omega))
    have HZ := Lib.hid fun W => size6_any c W
    generalize sizeL (c % 3) = size at *
    have hflat : ∀ i, (∀ j s, j < i → ss[j]? = some s → s.length ≤ 60) → (ss.take i).flatten.length ≤ 60 * i := fun i => by
      induction i with
      | zero => intro _; simp
      | succ i ih =>
        intro hs
        have h1 := ih fun j s hj he => hs j s (by omega) he
        rw [List.take_add_one, List.flatten_append, List.length_append]
        cases he : ss[i]? with
        | none =>
          rw [Option.toList_none, List.flatten_nil, List.length_nil]
          omega
        | some s =>
          rw [Option.toList_some, List.flatten_cons, List.flatten_nil, List.append_nil]
          have h9 := hs i s (by omega) he
          omega
    have HF := Lib.hid hflat
    clear hflat
    go_enter Tryd.func5, Tryd.ntmps5
    go_wp2_with fail
    refine Calls.below (H0.out _ HG.out) fun W1 hW1 => ?_
    have HW1 := Lib.hid hW1
    clear hW1
    go_wp2
    go_loopw [7, 8] (fun s7 s8 wr => ∃ i : Nat, i ≤ n ∧ s8 = .int .i64 (i : Int) ∧ s7 = .string (B (ss.take i).flatten) ∧ wr = W1 ∧ ∀ j s, j < i → ss[j]? = some s → s.length ≤ 60) (fun _ s _ => n - (intOf s).toNat)
    case atStart => exact ⟨0, by omega, rfl, by simp [B_nil], rfl, fun j s hj => absurd hj (by omega)⟩
    case round =>
      obtain ⟨i, hi, rfl, rfl, rfl, hs⟩ := hrel
      have hfl := HF.out i hs
      by_cases hend : i = n
      · have hlt : ¬ (i : Int) < (n : Int) := by omega
        have ht : (ss.take i).flatten = ss.flatten := by rw [hend, ← hn, List.take_length]
        rw [ht] at hfl ⊢
        have hall : ss.flatten.length ≤ 1200 := by omega
        have HJ := Lib.hid fun W hW => hmac_any size key ss.flatten (.slice a n cap) W hgd (HG.out.below hW) (by omega) (by omega) (fun W2 hW2 => HP.out.join (by omega) (by omega) W2 (hW.trans (hW2.mono hW.size)))
        have HS1 := Lib.hid fun b W hW hc => hmac_one size key ss.flatten b W hgd hW (by omega) (by omega) hc
        have HS2 := Lib.hid fun b W hW hc hc2 => hmac_two size key ss.flatten [] b W hgd hW (by omega) (by rw [List.length_nil]; omega) hc hc2
        have HS3 := Lib.hid fun b W hW hc hc2 => hmac_two size key [] ss.flatten b W hgd hW (by omega) (by rw [List.length_nil]; omega) hc hc2
        rw [List.append_nil] at HS2
        rw [List.nil_append] at HS3
        generalize hmacB size key ss.flatten = d at *
        generalize ss.flatten = all at *
        have hb1 := HW1.out
        clear hs hfl ht hp hgd hall HF
        go_wp2_with fail
        refine Calls.below (HZ.out _) fun W2 hW2 => ?_
        have hb2 := hb1.trans (hW2.mono hb1.size)
        clear hW2
        go_wp2_with fail
        refine Calls.below (HJ.out _ hb2) fun W3 hW3 => ?_
        have hb3 := hb2.trans (hW3.mono hb2.size)
        clear hW3
        go_wp2_with fail
        refine Calls.below (HS1.out _ _ ((HG.out.below hb3).below ((Below.refl _ _).alloc (Nat.le_refl _) _)) (by rw [World.cell?_alloc_new]; rfl)) fun W4 hW4 => ?_
        have hb4 := (hb3.alloc hb3.size (.cells #[.string (B all)] 9)).trans (hW4.mono (hb3.alloc hb3.size _).size)
        clear hW4
        go_wp2_with fail
        refine Calls.below (HS2.out _ _ ((HG.out.below hb4).below ((Below.refl _ _).alloc (Nat.le_refl _) _)) (by rw [World.cell?_alloc_new]; rfl) (by rw [World.cell?_alloc_new]; rfl)) fun W5 hW5 => ?_
        have hb5 := (hb4.alloc hb4.size (.cells #[.string (B all), .string (B [])] 9)).trans (hW5.mono (hb4.alloc hb4.size _).size)
        clear hW5
        go_wp2_with fail
        refine Calls.below (HS3.out _ _ ((HG.out.below hb5).below ((Below.refl _ _).alloc (Nat.le_refl _) _)) (by rw [World.cell?_alloc_new]; rfl) (by rw [World.cell?_alloc_new]; rfl)) fun W6 hW6 => ?_
        have hb6 := (hb5.alloc hb5.size (.cells #[.string (B []), .string (B all)] 9)).trans (hW6.mono (hb5.alloc hb5.size _).size)
        clear hW6
        go_wp2
        go_ret
        exact ⟨by simp, hb6⟩
      · have hlt : (i : Int) < (n : Int) := by omega
        have hin : i < n := by omega
        obtain ⟨s, hse⟩ : ∃ s, ss[i]? = some s := ⟨ss[i]'(by omega), List.getElem?_eq_getElem (by omega)⟩
        rcases hp with h0 | ⟨b, o, rfl, hb, hc, hcell⟩
        · exfalso; rw [h0] at hn; simp at hn; omega
        · have hci : wr.cell? ⟨b, o + i, none⟩ = some (.string (B s)) := by rw [HW1.out.cell (p := ⟨b, o + i, none⟩) hb]; exact hcell i s hse
          have ht1 : (ss.take (i + 1)).flatten = (ss.take i).flatten ++ s := by rw [List.take_add_one, List.flatten_append, hse]; simp
          have HT := Lib.hid ht1
          have hcat : ¬ 9223372036854775807 < (ss.take i).flatten.length + s.length ∨ 60 < s.length := by omega
          have HCELL := Lib.hid hcell
          clear hcell ht1
          generalize (ss.take i).flatten = cur at *
          by_cases h60 : s.length ≤ 60
          · have h60i : ¬ 60 < (s.length : Int) := by omega
            have hcat2 : ¬ 9223372036854775807 < cur.length + s.length := by omega
            have HS9 := Lib.hid (show ∀ j x, j < i + 1 → ss[j]? = some x → x.length ≤ 60 from fun j x hj hx => by
              by_cases e : j = i
              · subst e
                rw [hse] at hx
                cases hx
                exact h60
              · exact hs j x (by omega) hx)
            clear hs hcat
            go_wp2
            go_round
            case rel => exact ⟨i + 1, by omega, by go_num, by rw [HT.out], trivial, HS9.out⟩
            case measure => simp [intOf]; omega
          · have h60i : 60 < (s.length : Int) := by omega
            clear hs hcat
            go_wp2
            go_ret
            exact ⟨rfl, HW1.out⟩
  · by_cases hk3 : (key.length : Int) ≤ 200
    · have ht2 : ¬ (n : Int) ≤ 20 := fun h => h5 ⟨hk3, h⟩
      clear h5
      go_enter Tryd.func5, Tryd.ntmps5
      go_wp2_with fail
      refine Calls.ext (H0.out _ HG.out) fun u1 => ?_
      go_wp2_with fail
      refine Calls.ext (H0.out _ (HG.out.below (ext_below _ _))) fun u2 => ?_
      go_wp2
      go_ret
      exact ⟨rfl, by ((repeat' (with_reducible first | exact Below.refl _ _ | assumption | refine Below.drew ?_ | refine below_drewN ?_ _ | refine Below.setCell ?_ ?_ _ | refine Below.alloc ?_ ?_ _ | refine Below.ext ?_ ?_ _ | refine Below.trans ?_ (Below.mono ‹_› ?_))) <;> first | omega | (simp; done) | (simp; omega))⟩
    · clear h5
      go_enter Tryd.func5, Tryd.ntmps5
      go_wp2_with fail
      refine Calls.ext (H0.out _ HG.out) fun u1 => ?_
      go_wp2_with fail
      refine Calls.ext (H0.out _ (HG.out.below (ext_below _ _))) fun u2 => ?_
      go_wp2
      go_ret
      exact ⟨rfl, by ((repeat' (with_reducible first | exact Below.refl _ _ | assumption | refine Below.drew ?_ | refine below_drewN ?_ _ | refine Below.setCell ?_ ?_ _ | refine Below.alloc ?_ ?_ _ | refine Below.ext ?_ ?_ _ | refine Below.trans ?_ (Below.mono ‹_› ?_))) <;> first | omega | (simp; done) | (simp; omega))⟩
set_option maxRecDepth 100000 in
theorem walk (W : World) (base : Nat) (args : Array Value) {H : Type} {enc : TypeId × Value → H} (ds : List (DataW H)) (ps : List MemPlace) (hg : GlobAt W)
    (hval : ∀ (j : Nat) t v, Tryd.f5.params[j]? = some t → args[j]? = some v → Value.okWide Tryd.prog W .any base t v)
    (hA : DataW.TrodAll enc Tryd.prog W 0 (fun _ => true) true Tryd.f5.params.toList args.toList ds ps) (hlt : ∀ p ∈ ps, p.block < W.heap.size) :
    Calls Tryd.prog 5 args W fun e W' => e = .returned (.bool true) ∧ Below W.heap.size W W' := by
  rw [Tryd.params5] at hA hval
  obtain ⟨v0, v1, v2, d0, d1, d2, p0, p1, p2, rfl, rfl, rfl, h0, h1, h2⟩ := trodAll_three hA
  obtain ⟨x, rfl, hx⟩ := open_int Tryd.underlying5 (hval 0 5 v0 rfl rfl) h0 (fun p hp => hlt p (by simp [hp]))
  obtain ⟨a, rfl, ha⟩ := open_str Tryd.underlying9 (hval 1 9 v1 rfl rfl) h1 (fun p hp => hlt p (by simp [hp]))
  obtain ⟨ss, hss⟩ := open_parts Tryd.underlying28 Tryd.underlying9 (by kernel_rfl) (hval 2 28 v2 rfl rfl) h2
  have h0 : 0 ≤ x ∧ x < 256 := by
    simp [Lit.wf, IntKind.min, IntKind.max, IntKind.signed, IntKind.bits] at hx
    omega
  obtain ⟨c, rfl⟩ : ∃ c : Nat, x = (c : Int) := ⟨x.toNat, by omega⟩
  exact parts_law c a v2 ss W hg ha hss
set_option maxRecDepth 100000 in
theorem door_met (os : Os) (args : Array Value) : laidMetH Tryd.prog laidL ((World.doorLaid Tryd.prog 400 os).forCall (fun _ _ => 0) ⟨#[], args, []⟩).memory :=
  laidMetH_of_parts3 (fuel := 8) (laidMet_of_run' 8 (by kernel_rfl) (by kernel_rfl)) (by kernel_rfl) (by kernel_rfl)
set_option maxRecDepth 100000 in
theorem lifted (os : Os) (started : os.Started) (H : Type) (enc : TypeId × Value → H) :
    ReturnsInHanded {} Tryd.checked os 5 .any (fun w args => (Rows.hmacPartsSpec.pre enc Tryd.prog Tryd.f5 [] false w args ∧ laidMetH Tryd.prog laidL w) ∧ sizedMet enc Tryd.prog Tryd.f5 (OpenSpec.ofChange Rows.hmacPartsSpec) false w args) (Rows.hmacPartsSpec.post enc Tryd.prog Tryd.f5 false true false false) :=
  law_lift_laid (C := Tryd.checked) (tb := 4) (by kernel_rfl) started (by kernel_rfl) Tryd.func5
    (ChangeSpec.witness_shaped (enc := enc) (C := Tryd.checked) (os := os) (X := fun w _ => laidMetH Tryd.prog laidL w) false (World.doorLaid Tryd.prog 400 os) #[.int .u8 0, .string ⟨#[]⟩, .slice none 0 0] 8 rfl (World.shaped_of_RefB (by kernel_rfl) (by kernel_rfl)) (by kernel_rfl) (by kernel_rfl) (by kernel_rfl) (door_met os _))
    (by kernel_rfl) (by kernel_rfl) rfl (by kernel_rfl) Tryd.underlying4 (fun ds h => by match ds, h with | [_, _, _], _ => exact ⟨rfl, rfl, rfl⟩)
    (fun W base args ds ps hL hval hA hlt => walk W base args ds ps (laid_glob hL) hval hA hlt)
theorem over : Rows.hmacPartsRow.holds Tryd.pinned (OpenSpec.ofChange Rows.hmacPartsSpec) :=
  OpenClaim.holds_of_wide 5 Tryd.f5 rfl rfl rfl rfl rfl rfl rfl ⟨rfl, rfl, rfl, rfl, rfl⟩ rfl rfl rfl rfl rfl (by kernel_rfl) Tryd.func5 (by kernel_rfl)
    (of_decide_eq_true (by kernel_rfl)) (by unfold Func.isWrapper; rw [if_neg (of_decide_eq_false (by kernel_rfl))]; exact ⟨rfl, rfl⟩)
    (fun os started H enc _ => lifted os started H enc)
theorem proved : Rows.HmacPartsCardSaid :=
  Claim7.holds_tied_plain_at .later [] [.data, .data] true (true, "2e3556fb2737b9446447295cc99a6f79054103e76f59878535ebabf517a44985") false
    over (fun _ h => by cases h) (by kernel_rfl) (fun _ h => by cases h) hmacParts_row_tie rfl ⟨rfl, rfl⟩ (by kernel_rfl) rfl
    (fun f fn hf hfn => by
      obtain rfl : f = 5 := Option.some.inj ((show Tryd.prog.funcNamed "dromond/dromondlaw06.HmacParts" = some 5 by kernel_rfl).symm.trans hf) |>.symm
      obtain rfl : fn = Tryd.f5 := (Option.some.inj (Tryd.func5.symm.trans hfn)).symm
      exact ⟨by kernel_rfl, fun j t ht => by
        have hm := Array.mem_of_getElem? ht
        have hall : (Tryd.f5.params.toList.all fun u => !Tryd.prog.wantsStandIn u) = true := by kernel_rfl
        exact (show Tryd.prog.wantsStandIn t = false by simpa using List.all_eq_true.1 hall t (by simpa using hm))⟩)
    (by kernel_rfl)
#print axioms proved
end Go.Proofs.YtpgadpnaekhiaaaDoor.HmacParts
