/-
  GcmStreams: two texts of one key and one nonce are unlike just where their seals are; a text's seal hangs on nothing that goes with it.
  Conditions: none.
-/
import Derived.Test.YtnnoimikoddbcaaGf15
namespace Go.Proofs.Ytnnoimikoddbcaa.GcmStreams
open Go.ChangeShapes Go.WideShapes Go.ChangeAt Go.RowKit Go.Deep Go.Proofs.Ytnnoimikoddbcaa.Gf
open Go.Proofs.Ytnnoimikoddbcaa.Aes (byteF byteF_lt)
theorem byteF_at (l : List UInt8) (i : Nat) (h : i < l.length) : ((l[i].toNat : Nat) : Int) = ((byteF l i : Nat) : Int) := by simp [byteF, List.getD, h]
set_option maxHeartbeats 1600000 in
set_option maxRecDepth 100000 in
theorem streams_law (k n a t wi te : List UInt8) (w : World) (hk : k.length ≤ maxLen) (hn : n.length ≤ maxLen) (ha : a.length ≤ maxLen) (ht : t.length ≤ maxLen) (_hwi : wi.length ≤ maxLen) (_hte : te.length ≤ maxLen) :
    Calls Try.prog 7 #[.agg #[.string (B k), .string (B n), .string (B a), .string (B t)], .string (B wi), .string (B te)] w fun e w' => e = .returned (.bool true) ∧ Below w.heap.size w w' := by
  have H0 := Lib.hid awake_any
  have hf := fun W => few_any k n a t W hk hn ha ht
  by_cases hfew : Few k n a t
  · rw [decide_eq_true hfew] at hf
    have HF := Lib.hid hf
    clear hf
    by_cases hw : (wi.length : Int) ≤ 200
    · by_cases hx : (te.length : Int) ≤ 300
      · obtain ⟨hfk, hfn, hfa, hft⟩ := hfew
        by_cases hso : sealOk k n
        · have h1 := fun W => Seal_any k n a t W hso (by omega) (by omega)
          have h2 := fun W => Seal_any k n wi te W hso (by omega) (by omega)
          have hL1 : (sealB k n t).length = t.length := streamB_length _ _ _
          have hL2 : (sealB k n te).length = te.length := streamB_length _ _ _
          have hb : ∀ i, i < t.length → i < te.length → byteF (sealB k n t) i ^^^ byteF (sealB k n te) i = byteF t i ^^^ byteF te i := fun i hi hj => by
            rw [sealB, sealB, streamB_byte _ _ _ _ hi, streamB_byte _ _ _ _ hj]
            rw [Nat.xor_assoc, Nat.xor_comm (byteF te i), ← Nat.xor_assoc (ksB _ _ _), Nat.xor_self, Nat.zero_xor]
          generalize tagB k _ a _ = T1 at *
          generalize tagB k _ wi _ = T2 at *
          generalize sealB k n t = S1 at *
          generalize sealB k n te = S2 at *
          have H1 := Lib.hid h1
          have H2 := Lib.hid h2
          have HB := Lib.hid hb
          clear h1 h2 hb hso hfk hfn hfa
          go_enter Try.func7, Try.ntmps7
          go_wp2_with fail
          refine Calls.ext (H0.out _) fun u1 => ?_
          go_wp2_with fail
          refine Calls.ext (HF.out _) fun u2 => ?_
          go_wp2_with fail
          refine Calls.ext (H1.out _) fun u3 => ?_
          go_wp2_with fail
          refine Calls.ext (H2.out _) fun u4 => ?_
          go_wp2
          generalize comb (comb (comb u1 u2) u3) u4 = u at *
          go_loopw [13] (fun s13 wr => ∃ (i : Nat) (v : Xt), i ≤ t.length ∧ i ≤ te.length ∧ s13 = .int .i64 i ∧ wr = ext (w.alloc (.cells #[.string (B k), .string (B n), .string (B a), .string (B t)] 36)) v) (fun s _ => t.length - (intOf s).toNat)
          case atStart => exact ⟨0, u, by omega, by omega, rfl, rfl⟩
          case round =>
            obtain ⟨i, v, hi, hj, rfl, rfl⟩ := hrel
            by_cases hend : i = t.length ∨ i = te.length
            · rcases hend with hend | hend
              · have hlt : ¬ (i : Int) < (S1.length : Int) := by omega
                have HE := Lib.hid hend
                clear hend
                go_wp2
                go_ret
                exact ⟨by simp, by ((repeat' (with_reducible first | exact Below.refl _ _ | assumption | refine Below.drew ?_ | refine below_drewN ?_ _ | refine Below.setCell ?_ ?_ _ | refine Below.alloc ?_ ?_ _ | refine Below.ext ?_ ?_ _ | refine Below.trans ?_ (Below.mono ‹_› ?_))) <;> first | omega | (simp; done) | (simp; omega))⟩
              · have hlt : ¬ (i : Int) < (te.length : Int) := by omega
                have hlt2 : ¬ (i : Int) < (S2.length : Int) := by omega
                have HE := Lib.hid hend
                clear hend
                go_wp2
                all_goals (go_ret; exact ⟨by simp, by ((repeat' (with_reducible first | exact Below.refl _ _ | assumption | refine Below.drew ?_ | refine below_drewN ?_ _ | refine Below.setCell ?_ ?_ _ | refine Below.alloc ?_ ?_ _ | refine Below.ext ?_ ?_ _ | refine Below.trans ?_ (Below.mono ‹_› ?_))) <;> first | omega | (simp; done) | (simp; omega))⟩)
            · have h1 : (i : Int) < (S1.length : Int) := by omega
              have h2 : (i : Int) < (S2.length : Int) := by omega
              have h3 : (i : Int) < (te.length : Int) := by omega
              have h4 : (i : Int) < (t.length : Int) := by omega
              have g1 : i < S1.length := by omega
              have g2 : i < S2.length := by omega
              have g3 : i < te.length := by omega
              have g4 : i < t.length := by omega
              have hX : bits .xor .u8 ((S1[i].toNat : Nat) : Int) ((S2[i].toNat : Nat) : Int) = bits .xor .u8 ((t[i].toNat : Nat) : Int) ((te[i].toNat : Nat) : Int) := by
                rw [byteF_at _ _ g1, byteF_at _ _ g2, byteF_at _ _ g3, byteF_at _ _ g4, u8_xor_nat _ _ (byteF_lt _ _) (byteF_lt _ _), u8_xor_nat _ _ (byteF_lt _ _) (byteF_lt _ _), HB.out i g4 g3]
              go_wp2
              go_region
              go_wp2
              go_round
              case rel => exact ⟨i + 1, bump v, by omega, by omega, by go_num, rfl⟩
              case measure => simp [intOf]; omega
        · have H1 := Lib.hid fun W => Seal_none k n a t W hso
          have H2 := Lib.hid fun W => Seal_none k n wi te W hso
          clear hso hfk hfn hfa
          by_cases ht0 : (t.length : Int) = 0
          all_goals (
            go_enter Try.func7, Try.ntmps7
            go_wp2_with fail
            refine Calls.ext (H0.out _) fun u1 => ?_
            go_wp2_with fail
            refine Calls.ext (HF.out _) fun u2 => ?_
            go_wp2_with fail
            refine Calls.ext (H1.out _) fun u3 => ?_
            go_wp2_with fail
            refine Calls.ext (H2.out _) fun u4 => ?_
            go_wp2
            go_loopw [13] (fun s13 wr => s13 = .int .i64 0 ∧ wr = ext (w.alloc (.cells #[.string (B k), .string (B n), .string (B a), .string (B t)] 36)) (comb (comb (comb u1 u2) u3) u4)) (fun s _ => 0)
            case atStart => exact ⟨rfl, rfl⟩
            case round =>
              obtain ⟨rfl, rfl⟩ := hrel
              go_wp2
              go_ret
              exact ⟨rfl, by ((repeat' (with_reducible first | exact Below.refl _ _ | assumption | refine Below.drew ?_ | refine below_drewN ?_ _ | refine Below.setCell ?_ ?_ _ | refine Below.alloc ?_ ?_ _ | refine Below.ext ?_ ?_ _ | refine Below.trans ?_ (Below.mono ‹_› ?_))) <;> first | omega | (simp; done) | (simp; omega))⟩)
      · have HH := Lib.hid hfew
        clear hfew
        go_enter Try.func7, Try.ntmps7
        go_wp2_with fail
        refine Calls.ext (H0.out _) fun u1 => ?_
        go_wp2_with fail
        refine Calls.ext (HF.out _) fun u2 => ?_
        go_wp2_with fail
        refine Calls.ext (H0.out _) fun u3 => ?_
        go_wp2
        go_ret
        exact ⟨rfl, by ((repeat' (with_reducible first | exact Below.refl _ _ | assumption | refine Below.drew ?_ | refine below_drewN ?_ _ | refine Below.setCell ?_ ?_ _ | refine Below.alloc ?_ ?_ _ | refine Below.ext ?_ ?_ _ | refine Below.trans ?_ (Below.mono ‹_› ?_))) <;> first | omega | (simp; done) | (simp; omega))⟩
    · have HH := Lib.hid hfew
      clear hfew
      go_enter Try.func7, Try.ntmps7
      go_wp2_with fail
      refine Calls.ext (H0.out _) fun u1 => ?_
      go_wp2_with fail
      refine Calls.ext (HF.out _) fun u2 => ?_
      go_wp2_with fail
      refine Calls.ext (H0.out _) fun u3 => ?_
      go_wp2
      go_ret
      exact ⟨rfl, by ((repeat' (with_reducible first | exact Below.refl _ _ | assumption | refine Below.drew ?_ | refine below_drewN ?_ _ | refine Below.setCell ?_ ?_ _ | refine Below.alloc ?_ ?_ _ | refine Below.ext ?_ ?_ _ | refine Below.trans ?_ (Below.mono ‹_› ?_))) <;> first | omega | (simp; done) | (simp; omega))⟩
  · rw [decide_eq_false hfew] at hf
    have HF := Lib.hid hf
    clear hf hfew
    go_enter Try.func7, Try.ntmps7
    go_wp2_with fail
    refine Calls.ext (H0.out _) fun u1 => ?_
    go_wp2_with fail
    refine Calls.ext (HF.out _) fun u2 => ?_
    go_wp2_with fail
    refine Calls.ext (H0.out _) fun u3 => ?_
    go_wp2
    go_ret
    exact ⟨rfl, by ((repeat' (with_reducible first | exact Below.refl _ _ | assumption | refine Below.drew ?_ | refine below_drewN ?_ _ | refine Below.setCell ?_ ?_ _ | refine Below.alloc ?_ ?_ _ | refine Below.ext ?_ ?_ _ | refine Below.trans ?_ (Below.mono ‹_› ?_))) <;> first | omega | (simp; done) | (simp; omega))⟩
set_option maxRecDepth 100000 in
theorem walk (W : World) (base : Nat) (args : Array Value) {H : Type} {enc : TypeId × Value → H} (ds : List (DataW H)) (ps : List MemPlace)
    (hval : ∀ (j : Nat) t v, Try.f7.params[j]? = some t → args[j]? = some v → Value.okWide Try.prog W .any base t v)
    (hA : DataW.TrodAll enc Try.prog W 0 (fun _ => true) true Try.f7.params.toList args.toList ds ps) (hlt : ∀ p ∈ ps, p.block < W.heap.size) :
    Calls Try.prog 7 args W fun e W' => e = .returned (.bool true) ∧ Below W.heap.size W W' := by
  rw [Try.params7] at hA hval
  obtain ⟨v0, v1, v2, d0, d1, d2, p0, p1, p2, rfl, rfl, rfl, h0, h1, h2⟩ := trodAll_three hA
  obtain ⟨k, n, a, t, rfl, hk, hn, ha, ht⟩ := open_in (hval 0 36 v0 rfl rfl) h0 (fun p hp => hlt p (by simp [hp]))
  obtain ⟨wi, rfl, hwi⟩ := open_str Try.underlying9 (hval 1 9 v1 rfl rfl) h1 (fun p hp => hlt p (by simp [hp]))
  obtain ⟨te, rfl, hte⟩ := open_str Try.underlying9 (hval 2 9 v2 rfl rfl) h2 (fun p hp => hlt p (by simp [hp]))
  exact streams_law k n a t wi te W hk hn ha ht hwi hte
set_option maxRecDepth 100000 in
theorem lifted (os : Os) (started : os.Started) (H : Type) (enc : TypeId × Value → H) :
    ReturnsInHanded {} Try.checked os 7 .any (Rows.gcmStreamsSpec.pre6 enc Try.prog Try.f7 Rows.gcmStreamsRow.domain false) (Rows.gcmStreamsSpec.post enc Try.prog Try.f7 false true false false) :=
  law_lift (C := Try.checked) (tb := 4) (by kernel_rfl) started (by kernel_rfl) Try.func7
    (ChangeSpec.witness6 (enc := enc) (C := Try.checked) false ⟨#[], #[.agg #[.string ⟨#[]⟩, .string ⟨#[]⟩, .string ⟨#[]⟩, .string ⟨#[]⟩], .string ⟨#[]⟩, .string ⟨#[]⟩], []⟩ 8 (by kernel_rfl) (by kernel_rfl) (by kernel_rfl) (by kernel_rfl))
    (by kernel_rfl) (by kernel_rfl) rfl (by kernel_rfl) Try.underlying4 (fun ds h => by match ds, h with | [_, _, _], _ => exact ⟨rfl, rfl, rfl⟩)
    (fun W base args ds ps hval hA hlt => walk W base args ds ps hval hA hlt)
theorem over : Rows.gcmStreamsRow.holds Try.pinned (OpenSpec.ofChange Rows.gcmStreamsSpec) :=
  OpenClaim.holds_of_wide 7 Try.f7 rfl rfl rfl rfl rfl rfl rfl ⟨rfl, rfl, rfl, rfl, rfl⟩ rfl rfl rfl rfl rfl (by kernel_rfl) Try.func7 (by kernel_rfl)
    (of_decide_eq_true (by kernel_rfl)) (by unfold Func.isWrapper; rw [if_neg (of_decide_eq_false (by kernel_rfl))]; exact ⟨rfl, rfl⟩)
    (fun os started H enc _ => lifted os started H enc)
theorem proved : Rows.GcmStreamsSaid := over
#print axioms proved
end Go.Proofs.Ytnnoimikoddbcaa.GcmStreams
