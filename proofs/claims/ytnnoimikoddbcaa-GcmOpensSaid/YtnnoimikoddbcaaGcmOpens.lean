/-
  GcmOpens: Open reverses Seal and rejects any other tag; whatever is opened, the result is the standard's.
  Conditions: none.
-/
import Derived.Test.YtnnoimikoddbcaaGf16
namespace Go.Proofs.Ytnnoimikoddbcaa.GcmOpens
open Go.ChangeShapes Go.WideShapes Go.ChangeAt Go.RowKit Go.Deep Go.Proofs.Ytnnoimikoddbcaa.Gf
open Go.Proofs.Ytnnoimikoddbcaa.Ref08 (openS openE)
open Go.Proofs.Ytnnoimikoddbcaa.Aes (byteF byteF_lt)
theorem stream_back (k f t : List UInt8) : streamB k f (streamB k f t) = t := by
  have hl := streamB_length k f t
  refine byteF_ext (by rw [streamB_length, hl]) fun j hj => ?_
  rw [streamB_length, hl] at hj
  rw [streamB_byte _ _ _ _ (by omega), streamB_byte _ _ _ _ hj, Nat.xor_assoc, Nat.xor_self, Nat.xor_zero]
theorem set_ne {T : List UInt8} {q v : Nat} (hq : q < T.length) (hv : v < 256) (hne : v ≠ byteF T q) : T ≠ ((natL T).set q v).map UInt8.ofNat := by
  intro h
  apply hne
  have h1 := congrArg (fun l => byteF l q) h
  simp only [byteF, List.getD, List.getElem?_map, List.getElem?_set_self (show q < (natL T).length by rw [natL_length]; exact hq), Option.map_some, Option.getD_some, UInt8.toNat_ofNat'] at h1
  rw [byteF, List.getD, h1]
  exact (Nat.mod_eq_of_lt hv).symm
theorem pow_lt8 {m : Nat} (h : m < 8) : 2 ^ m < 256 := Nat.pow_lt_pow_right (a := 2) (by omega) (show m < 8 from h)
theorem xor_ne {a p : Nat} (hp : p ≠ 0) : a ^^^ p ≠ a := by
  intro h
  apply hp
  have : a ^^^ (a ^^^ p) = a ^^^ a := by rw [h]
  rwa [← Nat.xor_assoc, Nat.xor_self, Nat.zero_xor] at this
set_option maxHeartbeats 3200000 in
set_option maxRecDepth 100000 in
theorem opens_law (k n a t tag : List UInt8) (bit : Nat) (w : World) (hk : k.length ≤ maxLen) (hn : n.length ≤ maxLen) (ha : a.length ≤ maxLen) (ht : t.length ≤ maxLen) (_htag : tag.length ≤ maxLen) (hbit : bit < 256) :
    Calls Try.prog 8 #[.agg #[.string (B k), .string (B n), .string (B a), .string (B t)], .string (B tag), .int .u8 (bit : Int)] w fun e w' => e = .returned (.bool true) ∧ Below w.heap.size w w' := by
  have H0 := Lib.hid awake_any
  have hf := fun W => few_any k n a t W hk hn ha ht
  by_cases hfew : Few k n a t
  · rw [decide_eq_true hfew] at hf
    have HF := Lib.hid hf
    clear hf
    by_cases hx : (tag.length : Int) ≤ 40
    · obtain ⟨hfk, hfn, hfa, hft⟩ := hfew
      have H3 := Lib.hid (show ∀ W, Calls Try.prog 22 #[.string (B k), .string (B n), .string (B a), .string (B t), .string (B tag)] W fun e w' => e = .returned (.tuple #[.string (B (openS k n a t tag)), .int .i64 ((openE k n a t tag : Nat) : Int)]) ∧ Below W.heap.size W w' from fun W => Gf.Open_any k n a t tag W (by omega) (by omega))
      have H4 := Lib.hid (show ∀ W, Calls Try.prog 23 #[.string (B k), .string (B n), .string (B a), .string (B t), .string (B tag)] W fun e w' => e = .returned (.tuple #[.string (B (openS k n a t tag)), .int .i64 ((openE k n a t tag : Nat) : Int)]) ∧ Below W.heap.size W w' from fun W => Ref08.Open_any k n a t tag W (by omega) (by omega))
      generalize openS k n a t tag = RS at *
      generalize openE k n a t tag = RE at *
      by_cases hso : sealOk k n
      · have h1 := fun W => Seal_any k n a t W hso (by omega) (by omega)
        have hL1 : (sealB k n t).length = t.length := streamB_length _ _ _
        have hTL := tagB_length k (firstB k n) a (sealB k n t)
        have ho1 := fun W => Gf.Open_any k n a (sealB k n t) (tagB k (firstB k n) a (sealB k n t)) W (by omega) (by rw [hL1]; omega)
        rw [show openS k n a (sealB k n t) (tagB k (firstB k n) a (sealB k n t)) = t by rw [openS, if_pos ⟨hso, rfl⟩, sealB, stream_back], show openE k n a (sealB k n t) (tagB k (firstB k n) a (sealB k n t)) = 0 by rw [openE, if_pos hso, if_pos rfl]] at ho1
        have ho2 := fun (T' : List UInt8) (hT : tagB k (firstB k n) a (sealB k n t) ≠ T') W => Gf.Open_any k n a (sealB k n t) T' W (by omega) (by rw [hL1]; omega)
        have ho3 : ∀ (T' : List UInt8) (hT : tagB k (firstB k n) a (sealB k n t) ≠ T') W, Calls Try.prog 22 #[.string (B k), .string (B n), .string (B a), .string (B (sealB k n t)), .string (B T')] W fun e w' => e = .returned (.tuple #[.string (B []), .int .i64 7]) ∧ Below W.heap.size W w' := fun T' hT W => by
          have := ho2 T' hT W
          rw [show openS k n a (sealB k n t) T' = [] by rw [openS, if_neg fun h => hT h.2], show openE k n a (sealB k n t) T' = 7 by rw [openE, if_pos hso, if_neg hT]] at this
          exact this
        generalize tagB k _ a _ = T at *
        generalize sealB k n t = S at *
        obtain ⟨q, hq⟩ : ∃ q, q = bit / 8 % 16 := ⟨_, rfl⟩
        obtain ⟨m, hm⟩ : ∃ m, m = bit % 8 := ⟨_, rfl⟩
        have hqi : (bit : Int) / 8 % 16 = (q : Int) := by omega
        have hmi : (bit : Int) % 8 = (m : Int) := by omega
        have hq16 : q < 16 := by omega
        have hm8 : m < 8 := by omega
        have hpl := pow_lt8 hm8
        have hp0 : 2 ^ m ≠ 0 := Nat.pos_iff_ne_zero.1 (Nat.two_pow_pos m)
        have hvl := byteF_lt T q
        have hTn : T ≠ ((natL T).set q (byteF T q ^^^ 2 ^ m)).map UInt8.ofNat := set_ne (by omega) (Nat.xor_lt_two_pow (n := 8) hvl hpl) (xor_ne hp0)
        have H1 := Lib.hid h1
        have HO1 := Lib.hid ho1
        have HO2 := Lib.hid (ho3 _ hTn)
        clear h1 ho1 ho2 ho3 hso hfk hfn hfa hTn
        go_enter Try.func8, Try.ntmps8
        go_wp2_with fail
        refine Calls.ext (H0.out _) fun u1 => ?_
        go_wp2_with fail
        refine Calls.ext (HF.out _) fun u2 => ?_
        go_wp2_with fail
        refine Calls.ext (H1.out _) fun u3 => ?_
        go_wp2_with fail
        refine Calls.ext (HO1.out _) fun u4 => ?_
        go_upto_region 6 with fail
        have hin : (ext (w.alloc (.cells #[.string (B k), .string (B n), .string (B a), .string (B t)] 36)) (comb (comb (comb u1 u2) u3) u4)).heap[w.heap.size]? = some (.cells #[.string (B k), .string (B n), .string (B a), .string (B t)] 36 (0, 0)) := heap_ext (heap_alloc_last w _)
        have hb5 : Below w.heap.size w (ext (w.alloc (.cells #[.string (B k), .string (B n), .string (B a), .string (B t)] 36)) (comb (comb (comb u1 u2) u3) u4)) := by ((repeat' (with_reducible first | exact Below.refl _ _ | assumption | refine Below.drew ?_ | refine below_drewN ?_ _ | refine Below.setCell ?_ ?_ _ | refine Below.alloc ?_ ?_ _ | refine Below.ext ?_ ?_ _ | refine Below.trans ?_ (Below.mono ‹_› ?_))) <;> first | omega | (simp; done) | (simp; omega))
        generalize ext (w.alloc (.cells #[.string (B k), .string (B n), .string (B a), .string (B t)] 36)) (comb (comb (comb u1 u2) u3) u4) = W5 at *
        have hil := Aes.lt_of_heap hin
        obtain ⟨cap, w1, hconv, hcap, hb1, hrow⟩ := row_conv (P := Try.prog) W5 9 24 5 T Try.underlying9 Try.underlying24 Try.underlying5
        have hin1 := below_heap hb1 hil hin
        have HIN1 := Lib.hid hin1
        have HB5 := Lib.hid hb5
        have HB1 := Lib.hid hb1
        have HROW := Lib.hid hrow
        have hi0 : w1.cell? ⟨w.heap.size, 0, none⟩ = some (.string (B k)) := by rw [cell_of_row w1 w.heap.size 0 _ _ _ hin1]; rfl
        have hi1 : w1.cell? ⟨w.heap.size, 1, none⟩ = some (.string (B n)) := by rw [cell_of_row w1 w.heap.size 1 _ _ _ hin1]; rfl
        have hi2 : w1.cell? ⟨w.heap.size, 2, none⟩ = some (.string (B a)) := by rw [cell_of_row w1 w.heap.size 2 _ _ _ hin1]; rfl
        have hi3 : w1.cell? ⟨w.heap.size, 3, none⟩ = some (.string (B t)) := by rw [cell_of_row w1 w.heap.size 3 _ _ _ hin1]; rfl
        rw [hTL] at hconv hcap
        have hrq := hrow.2 q (by rw [natL_length]; omega)
        rw [natL, tab_get _ _ _ (by omega)] at hrq
        obtain ⟨hcq, hfq⟩ := hrq
        have hcapi : (16 : Int) ≤ (cap : Int) := by omega
        have hbl := hrow.1
        generalize hv : byteF T q = v at *
        have hxx : bits .xor .u8 (v : Int) ((2 : Int) ^ m % 256) = ((v ^^^ 2 ^ m : Nat) : Int) := by
          rw [show (2 : Int) ^ m % 256 = ((2 ^ m : Nat) : Int) by rw [Int.natCast_pow]; exact Int.emod_eq_of_lt (Int.pow_nonneg (by omega)) (by exact_mod_cast hpl)]
          exact u8_xor_nat _ _ hvl hpl
        have hrow2 := HROW.out.set q (v ^^^ 2 ^ m) (by rw [natL_length]; omega)
        generalize v ^^^ 2 ^ m = z at *
        generalize hTT : ((natL T).set q z).map UInt8.ofNat = TT at *
        have hst : (convert 24 9 (.slice (some ⟨W5.heap.size, 0, none⟩) 16 cap)).run Try.prog (w1.setCell ⟨W5.heap.size, q, none⟩ (.int .u8 (z : Int))) = .ok (.string (B TT)) (w1.setCell ⟨W5.heap.size, q, none⟩ (.int .u8 (z : Int))) := by
          rw [← hTT]
          exact string_of (P := Try.prog) _ 24 9 5 ⟨W5.heap.size, 0, none⟩ 16 cap ((natL T).set q z) Try.underlying24 Try.underlying5 Try.underlying9 (by rw [List.length_set, natL_length, hTL]) (fun j hj => by
            have e1 : (⟨W5.heap.size, 0, none⟩ : Addr).add j = ⟨W5.heap.size, j, none⟩ := by simp [Addr.add]; omega
            rw [e1]; exact (hrow2.2 j (by rw [List.length_set, natL_length]; omega)).1)
        have HB6 := Lib.hid (show Below w.heap.size w (w1.setCell ⟨W5.heap.size, q, none⟩ (.int .u8 (z : Int))) from Below.setCell (HB5.out.trans (HB1.out.mono HB5.out.size)) HB5.out.size _)
        have hne : ¬ W5.heap.size = w.heap.size := by omega
        have hne2 : ¬ w.heap.size = W5.heap.size := by omega
        clear hin hin1 hb5 hb1 hrow hv hq hm hrow2 hTT
        go_wp2_with fail
        refine Calls.ext (HO2.out _) fun u5 => ?_
        go_wp2_with fail
        refine Calls.ext (H3.out _) fun u6 => ?_
        go_wp2_with fail
        refine Calls.ext (H4.out _) fun u7 => ?_
        go_wp2
        go_ret
        exact ⟨by simp, HB6.out.trans (Below.mono (by ((repeat' (with_reducible first | exact Below.refl _ _ | assumption | refine Below.drew ?_ | refine below_drewN ?_ _ | refine Below.setCell ?_ ?_ _ | refine Below.alloc ?_ ?_ _ | refine Below.ext ?_ ?_ _ | refine Below.trans ?_ (Below.mono ‹_› ?_))) <;> first | omega | (simp; done) | (simp; omega))) HB6.out.size)⟩
      · have H1 := Lib.hid fun W => Seal_none k n a t W hso
        clear hso hfk hfn hfa
        go_enter Try.func8, Try.ntmps8
        go_wp2_with fail
        refine Calls.ext (H0.out _) fun u1 => ?_
        go_wp2_with fail
        refine Calls.ext (HF.out _) fun u2 => ?_
        go_wp2_with fail
        refine Calls.ext (H1.out _) fun u3 => ?_
        go_wp2_with fail
        refine Calls.ext (H3.out _) fun u4 => ?_
        go_wp2_with fail
        refine Calls.ext (H4.out _) fun u5 => ?_
        go_wp2
        go_ret
        exact ⟨by simp, by ((repeat' (with_reducible first | exact Below.refl _ _ | assumption | refine Below.drew ?_ | refine below_drewN ?_ _ | refine Below.setCell ?_ ?_ _ | refine Below.alloc ?_ ?_ _ | refine Below.ext ?_ ?_ _ | refine Below.trans ?_ (Below.mono ‹_› ?_))) <;> first | omega | (simp; done) | (simp; omega))⟩
    · have HH := Lib.hid hfew
      clear hfew
      go_enter Try.func8, Try.ntmps8
      go_wp2_with fail
      refine Calls.ext (H0.out _) fun u1 => ?_
      go_wp2_with fail
      refine Calls.ext (HF.out _) fun u2 => ?_
      go_wp2_with fail
      refine Calls.ext (H0.out _) fun u3 => ?_
      go_wp2
      go_ret
      exact ⟨rfl, by ((repeat' (with_reducible first | exact Below.refl _ _ | assumption | refine Below.drew ?_ | refine below_drewN ?_ _ | refine Below.setCell ?_ ?_ _ | refine Below.alloc ?_ ?_ _ | refine Below.ext ?_ ?_ _ | refine Below.trans ?_ (Below.mono ‹_› ?_))) <;> first | omega | (simp; done) | (simp; omega))⟩
  · rw [decide_eq_false hfew] at hf
    have HF := Lib.hid hf
    clear hf hfew
    go_enter Try.func8, Try.ntmps8
    go_wp2_with fail
    refine Calls.ext (H0.out _) fun u1 => ?_
    go_wp2_with fail
    refine Calls.ext (HF.out _) fun u2 => ?_
    go_wp2_with fail
    refine Calls.ext (H0.out _) fun u3 => ?_
    go_wp2
    go_ret
    exact ⟨rfl, by ((repeat' (with_reducible first | exact Below.refl _ _ | assumption | refine Below.drew ?_ | refine below_drewN ?_ _ | refine Below.setCell ?_ ?_ _ | refine Below.alloc ?_ ?_ _ | refine Below.ext ?_ ?_ _ | refine Below.trans ?_ (Below.mono ‹_› ?_))) <;> first | omega | (simp; done) | (simp; omega))⟩
set_option maxRecDepth 100000 in
theorem walk (W : World) (base : Nat) (args : Array Value) {H : Type} {enc : TypeId × Value → H} (ds : List (DataW H)) (ps : List MemPlace)
    (hval : ∀ (j : Nat) t v, Try.f8.params[j]? = some t → args[j]? = some v → Value.okWide Try.prog W .any base t v)
    (hA : DataW.TrodAll enc Try.prog W 0 (fun _ => true) true Try.f8.params.toList args.toList ds ps) (hlt : ∀ p ∈ ps, p.block < W.heap.size) :
    Calls Try.prog 8 args W fun e W' => e = .returned (.bool true) ∧ Below W.heap.size W W' := by
  rw [Try.params8] at hA hval
  obtain ⟨v0, v1, v2, d0, d1, d2, p0, p1, p2, rfl, rfl, rfl, h0, h1, h2⟩ := trodAll_three hA
  obtain ⟨k, n, a, t, rfl, hk, hn, ha, ht⟩ := open_in (hval 0 36 v0 rfl rfl) h0 (fun p hp => hlt p (by simp [hp]))
  obtain ⟨tag, rfl, htag⟩ := open_str Try.underlying9 (hval 1 9 v1 rfl rfl) h1 (fun p hp => hlt p (by simp [hp]))
  obtain ⟨bit, rfl, hwf⟩ := open_int Try.underlying5 (hval 2 5 v2 rfl rfl) h2 (fun p hp => hlt p (by simp [hp]))
  have h1 : 0 ≤ bit ∧ bit < 256 := by
    simp [Lit.wf, IntKind.min, IntKind.max, IntKind.signed, IntKind.bits] at hwf
    omega
  obtain ⟨b, rfl⟩ : ∃ b : Nat, bit = (b : Int) := ⟨bit.toNat, by omega⟩
  exact opens_law k n a t tag b W hk hn ha ht htag (by omega)
set_option maxRecDepth 100000 in
theorem lifted (os : Os) (started : os.Started) (H : Type) (enc : TypeId × Value → H) :
    ReturnsInHanded {} Try.checked os 8 .any (Rows.gcmOpensSpec.pre6 enc Try.prog Try.f8 Rows.gcmOpensRow.domain false) (Rows.gcmOpensSpec.post enc Try.prog Try.f8 false true false false) :=
  law_lift (C := Try.checked) (tb := 4) (by kernel_rfl) started (by kernel_rfl) Try.func8
    (ChangeSpec.witness6 (enc := enc) (C := Try.checked) false ⟨#[], #[.agg #[.string ⟨#[]⟩, .string ⟨#[]⟩, .string ⟨#[]⟩, .string ⟨#[]⟩], .string ⟨#[]⟩, .int .u8 0], []⟩ 8 (by kernel_rfl) (by kernel_rfl) (by kernel_rfl) (by kernel_rfl))
    (by kernel_rfl) (by kernel_rfl) rfl (by kernel_rfl) Try.underlying4 (fun ds h => by match ds, h with | [_, _, _], _ => exact ⟨rfl, rfl, rfl⟩)
    (fun W base args ds ps hval hA hlt => walk W base args ds ps hval hA hlt)
theorem over : Rows.gcmOpensRow.holds Try.pinned (OpenSpec.ofChange Rows.gcmOpensSpec) :=
  OpenClaim.holds_of_wide 8 Try.f8 rfl rfl rfl rfl rfl rfl rfl ⟨rfl, rfl, rfl, rfl, rfl⟩ rfl rfl rfl rfl rfl (by kernel_rfl) Try.func8 (by kernel_rfl)
    (of_decide_eq_true (by kernel_rfl)) (by unfold Func.isWrapper; rw [if_neg (of_decide_eq_false (by kernel_rfl))]; exact ⟨rfl, rfl⟩)
    (fun os started H enc _ => lifted os started H enc)
theorem proved : Rows.GcmOpensSaid := over
#print axioms proved
end Go.Proofs.Ytnnoimikoddbcaa.GcmOpens
