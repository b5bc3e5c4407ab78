/-
  ShaLengths: the digests of strings of one repeated byte are the standard's for any length.
  Conditions: none (the package's two tables are as the program's text lays them: the card ties that).
-/
import Derived.Test.YtpgadpnaekhiaaaDoorRsD
import Derived.Test.YtpgadpnaekhiaaaDoorOpen
import Derived.Test.YtpgadpnaekhiaaaDoorOpen2
import Derived.Test.YtpgadpnaekhiaaaDoorTie
import Derived.Test.YtpgadpnaekhiaaaDoorCards
import Derived.SevenTiedAt
namespace Go.Proofs.YtpgadpnaekhiaaaDoor.ShaLengths
open Go.ChangeShapes Go.WideShapes Go.ChangeAt Go.RowKit Go.Deep Go.Proofs.YtpgadpnaekhiaaaDoor.Hm
open Go.Proofs.YtpgadpnaekhiaaaDoor.Sha (GlobAt zeros zeros_length made_zeros infoByte)
/-- What the last region keeps. -/
def LenS (w : World) (rb : Nat) (l : List Nat) (W : World) : Prop := Below w.heap.size w W ∧ NumsAt W rb 5 .u8 l
theorem LenS.keep {w : World} {rb : Nat} {l : List Nat} (W W1 : World) (h : LenS w rb l W) (hb : Below W.heap.size W W1) : LenS w rb l W1 :=
  ⟨h.1.trans (hb.mono h.1.size), h.2.below hb⟩
theorem runConvS {o : Oper} {a : Act} {W : World} (x : Operand) (ho : o.op = .convert 33 9 x) {rb n cap : Nat} {l : List Nat} (hx : a.eval x = .slice (some ⟨rb, 0, none⟩) n cap) (hl : l.length = n) (h : NumsAt W rb 5 .u8 l) :
    (execOp a.eval o).run Tryd.prog W = .ok (.value (.string (B (l.map UInt8.ofNat)))) W := by
  have hst := string_of (P := Tryd.prog) W 33 9 5 ⟨rb, 0, none⟩ n cap l Tryd.underlying33 Tryd.underlying5 Tryd.underlying9 hl (fun j hj => by
    have e1 : (⟨rb, 0, none⟩ : Addr).add j = ⟨rb, j, none⟩ := by simp [Addr.add]; omega
    rw [e1]; exact h.cell j (by omega))
  unfold execOp
  simp only [ho, hx, Sem.run_bind, hst, Result.andThen_ok, Sem.run_pure]
  rfl
theorem runEqS {o : Oper} {a : Act} {w : World} (x y : Operand) (tp : TypeId) (ho : o.op = .binOp .eql 9 x y tp) {s : ByteArray} (hx : a.eval x = .string s) (hy : a.eval y = .string s) :
    (execOp a.eval o).run Tryd.prog w = .ok (.value (.bool true)) w := by
  unfold execOp
  simp only [ho, hx, hy]
  go_simp
set_option maxHeartbeats 800000 in
set_option maxRecDepth 100000 in
theorem lengths_law (n c s : Nat) (w : World) (hg : GlobAt w) (hn : n < 65536) (hc : c < 256) (hs : s < 256) : Calls Tryd.prog 9 #[.int .u16 (n : Int), .int .u8 (c : Int), .int .u8 (s : Int)] w fun e w' => e = .returned (.bool true) ∧ Below w.heap.size w w' := by
  have H0 := Lib.hid Sha.awake_any
  have HG := Lib.hid hg
  clear hg
  obtain ⟨m, hm⟩ : ∃ m, s % 3 = m := ⟨_, rfl⟩
  have hm3 : m < 3 := by rw [← hm]; exact Nat.mod_lt _ (by omega)
  have htm : (s : Int).tmod 3 = (m : Int) := by rw [Int.tmod_eq_emod_of_nonneg (Int.natCast_nonneg _)]; omega
  have hidx := fun W => size_idx m hm3 W
  have hgd := size_good m hm3
  generalize sizeL m = size at *
  obtain ⟨q, hq⟩ : ∃ q, n % 400 = q := ⟨_, rfl⟩
  have hq4 : q < 400 := by rw [← hq]; exact Nat.mod_lt _ (by omega)
  have htq : (n : Int).tmod 400 = (q : Int) := by rw [Int.tmod_eq_emod_of_nonneg (Int.natCast_nonneg _)]; omega
  have HS := Lib.hid fun b W hb hW => Sum_any size b W hgd hW (by have : b.length = q := hb; omega)
  have HR := Lib.hid fun b W hb => Ref_any size b W hgd (by have : b.length = q := hb; omega)
  have hmk := fun W : World => run_make_row' (P := Tryd.prog) 33 5 (.int .u8 0) 1 Tryd.underlying33 infoByte rfl .i64 .i64 q (by omega) (by omega) W
  rw [made_zeros] at hmk
  clear hm hq
  go_enter Tryd.func9, Tryd.ntmps9
  go_wp2_with fail
  refine Calls.below (H0.out _) fun W1 hW1 => ?_
  go_wp2
  have hrow := NumsAt.new W1 5 .u8 (zeros q)
  have hbel : Below w.heap.size w (W1.alloc (.cells (nums .u8 (zeros q)) 5)) := hW1.alloc hW1.size _
  have hwk := hW1.size
  clear hmk
  generalize W1.alloc (.cells (nums .u8 (zeros q)) 5) = W2 at *
  generalize W1.heap.size = rb at *
  go_loopw [8] (fun s8 wr => ∃ (i : Nat) (l : List Nat), i ≤ q ∧ s8 = .int .i64 i ∧ l = fillN (fun _ => c) (zeros q) i ∧ LenS w rb l wr) (fun s _ => q - (intOf s).toNat)
  case atStart => exact ⟨0, zeros q, by omega, rfl, rfl, hbel, hrow⟩
  case round =>
    clear hrow hbel
    obtain ⟨i, l, hi, rfl, hl, hbel, hrow⟩ := hrel
    have hll : l.length = q := by rw [hl, fillN_length, zeros_length]
    by_cases hend : i = q
    · have hlt : ¬ (i : Int) < (q : Int) := by omega
      have HS2 := Lib.hid fun W hW => HS.out (l.map UInt8.ofNat) W (by rw [List.length_map]; exact hll) hW
      have HR2 := Lib.hid fun W => HR.out (l.map UInt8.ofNat) W (by rw [List.length_map]; exact hll)
      clear hl
      generalize digest size (l.map UInt8.ofNat) = d at *
      go_upto_region 9 with fail
      have hS : LenS w rb l wr.drew := ⟨hbel.drew, hrow.drew⟩
      refine wp_region_held (S := fun W => LenS w rb l W) (by kernel_rfl) ?_
      change wpAnyH _ _ _ _ _ _ _ _ wr.drew
      refine takeH 0 rfl rfl (some 30) rfl (.int .i64 (size : Int)) (by kernel_rfl) (by kernel_rfl) (by kernel_rfl) (fun _ _ _ h => h) (fun _ _ => rfl) hS ?_
      simp only [Act.put, List.setIfInBounds_toArray, List.set_cons_zero, List.set_cons_succ]
      refine takeH 1 rfl rfl (some 31) rfl (.slice (some ⟨rb, 0, none⟩) q q) (by kernel_rfl) (by kernel_rfl) (by kernel_rfl) (fun _ _ _ h => h) (fun _ _ => rfl) hS ?_
      simp only [Act.put, List.setIfInBounds_toArray, List.set_cons_zero, List.set_cons_succ]
      refine takeH 2 rfl rfl (some 32) rfl (.string (B (l.map UInt8.ofNat))) (by kernel_rfl) (by kernel_rfl) (by kernel_rfl) (fun _ _ _ h => h) (fun w1 h1 => runConvS _ rfl rfl hll h1.2) hS ?_
      simp only [Act.put, List.setIfInBounds_toArray, List.set_cons_zero, List.set_cons_succ]
      refine takeH 4 rfl rfl (some 34) rfl (.int .i64 (size : Int)) (by kernel_rfl) (by kernel_rfl) (by kernel_rfl) (fun _ _ _ h => h) (fun _ _ => rfl) hS ?_
      simp only [Act.put, List.setIfInBounds_toArray, List.set_cons_zero, List.set_cons_succ]
      refine takeH 5 rfl rfl (some 35) rfl (.slice (some ⟨rb, 0, none⟩) q q) (by kernel_rfl) (by kernel_rfl) (by kernel_rfl) (fun _ _ _ h => h) (fun _ _ => rfl) hS ?_
      simp only [Act.put, List.setIfInBounds_toArray, List.set_cons_zero, List.set_cons_succ]
      refine takeH 6 rfl rfl (some 36) rfl (.string (B (l.map UInt8.ofNat))) (by kernel_rfl) (by kernel_rfl) (by kernel_rfl) (fun _ _ _ h => h) (fun w1 h1 => runConvS _ rfl rfl hll h1.2) hS ?_
      simp only [Act.put, List.setIfInBounds_toArray, List.set_cons_zero, List.set_cons_succ]
      refine oneH 3 rfl rfl (by kernel_rfl) fun K hK => ?_
      refine wpH_call (some 33) rfl 19 #[.int .i64 (size : Int), .string (B (l.map UInt8.ofNat))] (by kernel_rfl) _ _ (HS2.out _ (HG.out.below hS.1)) fun Wc1 hWc1 => ?_
      simp only [Act.put, List.setIfInBounds_toArray, List.set_cons_zero, List.set_cons_succ]
      have hSc1 := LenS.keep wr.drew Wc1 hS hWc1
      refine hK _ _ hSc1 fun _ => ?_
      clear hK K
      refine oneH 7 rfl rfl (by kernel_rfl) fun K hK => ?_
      refine wpH_call (some 37) rfl 16 #[.int .i64 (size : Int), .string (B (l.map UInt8.ofNat))] (by kernel_rfl) _ _ (HR2.out _) fun Wc2 hWc2 => ?_
      simp only [Act.put, List.setIfInBounds_toArray, List.set_cons_zero, List.set_cons_succ]
      have hSc2 := LenS.keep Wc1 Wc2 hSc1 hWc2
      refine hK _ _ hSc2 fun _ => ?_
      clear hK K
      refine takeH 8 rfl rfl (some 38) rfl (.bool true) (by kernel_rfl) (by kernel_rfl) (by kernel_rfl) (fun _ _ _ h => h) (fun w1 _ => runEqS _ _ _ rfl rfl rfl) hSc2 ?_
      simp only [Act.put, List.setIfInBounds_toArray, List.set_cons_zero, List.set_cons_succ]
      refine takeH 9 rfl rfl (some 6) rfl (.bool true) (by kernel_rfl) (by kernel_rfl) (by kernel_rfl) (fun _ _ _ h => h) (fun _ _ => rfl) hSc2 ?_
      simp only [Act.put, List.setIfInBounds_toArray, List.set_cons_zero, List.set_cons_succ]
      refine wpAnyH_done (by kernel_rfl) ?_ _
      go_wp2
      go_ret
      exact ⟨rfl, hSc2.1⟩
    · have hlt : (i : Int) < (q : Int) := by omega
      have hcl := hrow.cell i (by omega)
      have hfz := hrow.frozen i
      have HL := Lib.hid hl
      have HR3 := Lib.hid (hrow.set i c)
      have HB3 := Lib.hid (Below.setCell hbel (show w.heap.size ≤ (⟨rb, i, none⟩ : Addr).block from hwk) (.int .u8 ((c : Nat) : Int)))
      clear hl hrow hbel
      go_wp2
      go_round
      case rel => exact ⟨i + 1, l.set i c, by omega, by go_num, by rw [fillN, ← HL.out], HB3.out, HR3.out⟩
      case measure => simp [intOf]; omega
set_option maxRecDepth 100000 in
theorem walk (W : World) (base : Nat) (args : Array Value) {H : Type} {enc : TypeId × Value → H} (ds : List (DataW H)) (ps : List MemPlace) (hg : GlobAt W)
    (hval : ∀ (j : Nat) t v, Tryd.f9.params[j]? = some t → args[j]? = some v → Value.okWide Tryd.prog W .any base t v)
    (hA : DataW.TrodAll enc Tryd.prog W 0 (fun _ => true) true Tryd.f9.params.toList args.toList ds ps) (hlt : ∀ p ∈ ps, p.block < W.heap.size) :
    Calls Tryd.prog 9 args W fun e W' => e = .returned (.bool true) ∧ Below W.heap.size W W' := by
  rw [Tryd.params9] at hA hval
  obtain ⟨v0, v1, v2, d0, d1, d2, p0, p1, p2, rfl, rfl, rfl, h0, h1, h2⟩ := trodAll_three hA
  obtain ⟨x, rfl, hx⟩ := open_int Tryd.underlying35 (hval 0 35 v0 rfl rfl) h0 (fun p hp => hlt p (by simp [hp]))
  obtain ⟨y, rfl, hy⟩ := open_int Tryd.underlying5 (hval 1 5 v1 rfl rfl) h1 (fun p hp => hlt p (by simp [hp]))
  obtain ⟨z, rfl, hz⟩ := open_int Tryd.underlying5 (hval 2 5 v2 rfl rfl) h2 (fun p hp => hlt p (by simp [hp]))
  have h0 : 0 ≤ x ∧ x < 65536 := by
    simp [Lit.wf, IntKind.min, IntKind.max, IntKind.signed, IntKind.bits] at hx
    omega
  have h1 : 0 ≤ y ∧ y < 256 := by
    simp [Lit.wf, IntKind.min, IntKind.max, IntKind.signed, IntKind.bits] at hy
    omega
  have h2 : 0 ≤ z ∧ z < 256 := by
    simp [Lit.wf, IntKind.min, IntKind.max, IntKind.signed, IntKind.bits] at hz
    omega
  obtain ⟨a, rfl⟩ : ∃ a : Nat, x = (a : Int) := ⟨x.toNat, by omega⟩
  obtain ⟨b, rfl⟩ : ∃ b : Nat, y = (b : Int) := ⟨y.toNat, by omega⟩
  obtain ⟨c, rfl⟩ : ∃ c : Nat, z = (c : Int) := ⟨z.toNat, by omega⟩
  exact lengths_law a b c W hg (by omega) (by omega) (by omega)
set_option maxRecDepth 100000 in
theorem door_met (os : Os) (args : Array Value) : laidMetH Tryd.prog laidL ((World.doorLaid Tryd.prog 400 os).forCall (fun _ _ => 0) ⟨#[], args, []⟩).memory :=
  laidMetH_of_parts3 (fuel := 8) (laidMet_of_run' 8 (by kernel_rfl) (by kernel_rfl)) (by kernel_rfl) (by kernel_rfl)
set_option maxRecDepth 100000 in
theorem lifted (os : Os) (started : os.Started) (H : Type) (enc : TypeId × Value → H) :
    ReturnsInHanded {} Tryd.checked os 9 .any (fun w args => (Rows.shaLengthsSpec.pre enc Tryd.prog Tryd.f9 [] false w args ∧ laidMetH Tryd.prog laidL w) ∧ sizedMet enc Tryd.prog Tryd.f9 (OpenSpec.ofChange Rows.shaLengthsSpec) false w args) (Rows.shaLengthsSpec.post enc Tryd.prog Tryd.f9 false true false false) :=
  law_lift_laid (C := Tryd.checked) (tb := 4) (by kernel_rfl) started (by kernel_rfl) Tryd.func9
    (ChangeSpec.witness_shaped (enc := enc) (C := Tryd.checked) (os := os) (X := fun w _ => laidMetH Tryd.prog laidL w) false (World.doorLaid Tryd.prog 400 os) #[.int .u16 0, .int .u8 0, .int .u8 0] 8 rfl (World.shaped_of_RefB (by kernel_rfl) (by kernel_rfl)) (by kernel_rfl) (by kernel_rfl) (by kernel_rfl) (door_met os _))
    (by kernel_rfl) (by kernel_rfl) rfl (by kernel_rfl) Tryd.underlying4 (fun ds h => by match ds, h with | [_, _, _], _ => exact ⟨rfl, rfl, rfl⟩)
    (fun W base args ds ps hL hval hA hlt => walk W base args ds ps (laid_glob hL) hval hA hlt)
theorem over : Rows.shaLengthsRow.holds Tryd.pinned (OpenSpec.ofChange Rows.shaLengthsSpec) :=
  OpenClaim.holds_of_wide 9 Tryd.f9 rfl rfl rfl rfl rfl rfl rfl ⟨rfl, rfl, rfl, rfl, rfl⟩ rfl rfl rfl rfl rfl (by kernel_rfl) Tryd.func9 (by kernel_rfl)
    (of_decide_eq_true (by kernel_rfl)) (by unfold Func.isWrapper; rw [if_neg (of_decide_eq_false (by kernel_rfl))]; exact ⟨rfl, rfl⟩)
    (fun os started H enc _ => lifted os started H enc)
theorem proved : Rows.ShaLengthsCardSaid :=
  Claim7.holds_tied_plain_at .later [] [.data, .data] true (true, "2e3556fb2737b9446447295cc99a6f79054103e76f59878535ebabf517a44985") false
    over (fun _ h => by cases h) (by kernel_rfl) (fun _ h => by cases h) shaLengths_row_tie rfl ⟨rfl, rfl⟩ (by kernel_rfl) rfl
    (fun f fn hf hfn => by
      obtain rfl : f = 9 := Option.some.inj ((show Tryd.prog.funcNamed "dromond/dromondlaw05.ShaLengths" = some 9 by kernel_rfl).symm.trans hf) |>.symm
      obtain rfl : fn = Tryd.f9 := (Option.some.inj (Tryd.func9.symm.trans hfn)).symm
      exact ⟨by kernel_rfl, fun j t ht => by
        have hm := Array.mem_of_getElem? ht
        have hall : (Tryd.f9.params.toList.all fun u => !Tryd.prog.wantsStandIn u) = true := by kernel_rfl
        exact (show Tryd.prog.wantsStandIn t = false by simpa using List.all_eq_true.1 hall t (by simpa using hm))⟩)
    (by kernel_rfl)
#print axioms proved
end Go.Proofs.YtpgadpnaekhiaaaDoor.ShaLengths
