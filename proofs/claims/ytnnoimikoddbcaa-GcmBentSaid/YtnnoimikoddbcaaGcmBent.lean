/-
  GcmBent: with one byte changed, in the sealed text or the associated data, Open succeeds exactly if the standard's tag is the same.
  Conditions: none.
-/
import Derived.Test.YtnnoimikoddbcaaGf16
namespace Go.Proofs.Ytnnoimikoddbcaa.GcmBent
open Go.ChangeShapes Go.WideShapes Go.ChangeAt Go.RowKit Go.Deep Go.Proofs.Ytnnoimikoddbcaa.Gf
open Go.Proofs.Ytnnoimikoddbcaa.Ref08 (openS openE)
open Go.Proofs.Ytnnoimikoddbcaa.Aes (byteF byteF_lt)
set_option maxHeartbeats 3200000 in
set_option maxRecDepth 100000 in
theorem bent_law (k n a t : List UInt8) (at' by' : Nat) (w : World) (hk : k.length ≤ maxLen) (hn : n.length ≤ maxLen) (ha : a.length ≤ maxLen) (ht : t.length ≤ maxLen) (hat : at' < 65536) (hby : by' < 256) :
    Calls Try.prog 9 #[.agg #[.string (B k), .string (B n), .string (B a), .string (B t)], .int .u16 (at' : Int), .int .u8 (by' : Int)] w fun e w' => e = .returned (.bool true) ∧ Below w.heap.size w w' := by
  have hwr : wrap64 (at' : Int) = (at' : Int) := by unfold wrap64; omega
  have H0 := Lib.hid awake_any
  have hf := fun W => few_any k n a t W hk hn ha ht
  by_cases hfew : Few k n a t
  · rw [decide_eq_true hfew] at hf
    have HF := Lib.hid hf
    clear hf
    obtain ⟨hfk, hfn, hfa, hft⟩ := hfew
    by_cases hso : sealOk k n
    · have h1 := fun W => Seal_any k n a t W hso (by omega) (by omega)
      have hL1 : (sealB k n t).length = t.length := streamB_length _ _ _
      generalize tagB k _ a _ = T at *
      generalize sealB k n t = S at *
      have H1 := Lib.hid h1
      have hSl : S.length ≤ 300 := by omega
      clear h1 hso hfk hfn hL1
      by_cases h0 : S.length + a.length = 0
      · have hS0 : S = [] := List.length_eq_zero_iff.1 (by omega)
        have ha0 : a = [] := List.length_eq_zero_iff.1 (by omega)
        subst hS0 ha0
        go_enter Try.func9, Try.ntmps9
        go_wp2_with fail
        refine Calls.ext (H0.out _) fun u1 => ?_
        go_wp2_with fail
        refine Calls.ext (HF.out _) fun u2 => ?_
        go_wp2_with fail
        refine Calls.ext (H1.out _) fun u3 => ?_
        go_wp2
        go_ret
        exact ⟨rfl, by ((repeat' (with_reducible first | exact Below.refl _ _ | assumption | refine Below.drew ?_ | refine below_drewN ?_ _ | refine Below.setCell ?_ ?_ _ | refine Below.alloc ?_ ?_ _ | refine Below.ext ?_ ?_ _ | refine Below.trans ?_ (Below.mono ‹_› ?_))) <;> first | omega | (simp; done) | (simp; omega))⟩
      · obtain ⟨L, hL⟩ : ∃ L, L = S.length + a.length := ⟨_, rfl⟩
        have hb0 : ((S.length : Int) + (a.length : Int) == 0) = false := by simp; omega
        have hcat : ¬ 9223372036854775807 < S.length + a.length := by omega
        go_enter Try.func9, Try.ntmps9
        go_wp2_with fail
        refine Calls.ext (H0.out _) fun u1 => ?_
        go_wp2_with fail
        refine Calls.ext (HF.out _) fun u2 => ?_
        go_wp2_with fail
        refine Calls.ext (H1.out _) fun u3 => ?_
        go_upto_region 6 with fail
        have hin : (ext (w.alloc (.cells #[.string (B k), .string (B n), .string (B a), .string (B t)] 36)) (comb (comb u1 u2) u3)).heap[w.heap.size]? = some (.cells #[.string (B k), .string (B n), .string (B a), .string (B t)] 36 (0, 0)) := heap_ext (heap_alloc_last w _)
        have hb5 : Below w.heap.size w (ext (w.alloc (.cells #[.string (B k), .string (B n), .string (B a), .string (B t)] 36)) (comb (comb u1 u2) u3)) := by ((repeat' (with_reducible first | exact Below.refl _ _ | assumption | refine Below.drew ?_ | refine below_drewN ?_ _ | refine Below.setCell ?_ ?_ _ | refine Below.alloc ?_ ?_ _ | refine Below.ext ?_ ?_ _ | refine Below.trans ?_ (Below.mono ‹_› ?_))) <;> first | omega | (simp; done) | (simp; omega))
        generalize ext (w.alloc (.cells #[.string (B k), .string (B n), .string (B a), .string (B t)] 36)) (comb (comb u1 u2) u3) = W5 at *
        have hil := Aes.lt_of_heap hin
        obtain ⟨cap, w1, hconv, hcap, hb1, hrow⟩ := row_conv (P := Try.prog) W5 9 24 5 (S ++ a) Try.underlying9 Try.underlying24 Try.underlying5
        have hj2 : W5.cell? ⟨w.heap.size, 2, none⟩ = some (.string (B a)) := by rw [cell_of_row W5 w.heap.size 2 _ _ _ hin]; rfl
        have hin1 := below_heap hb1 hil hin
        have HIN1 := Lib.hid hin1
        have HB5 := Lib.hid hb5
        have HB1 := Lib.hid hb1
        have HROW := Lib.hid hrow
        have hi0 : w1.cell? ⟨w.heap.size, 0, none⟩ = some (.string (B k)) := by rw [cell_of_row w1 w.heap.size 0 _ _ _ hin1]; rfl
        have hi1 : w1.cell? ⟨w.heap.size, 1, none⟩ = some (.string (B n)) := by rw [cell_of_row w1 w.heap.size 1 _ _ _ hin1]; rfl
        rw [List.length_append, ← hL] at hconv hcap
        obtain ⟨q, hq⟩ : ∃ q, q = at' % L := ⟨_, rfl⟩
        have hql : q < L := by rw [hq]; exact Nat.mod_lt _ (by omega)
        have hqi : (at' : Int) % (L : Int) = (q : Int) := by rw [hq]; simp
        have hrq := hrow.2 q (by rw [natL_length, List.length_append]; omega)
        rw [natL, tab_get _ _ _ (by rw [List.length_append]; omega)] at hrq
        obtain ⟨hcq, hfq⟩ := hrq
        have hvl := byteF_lt (S ++ a) q
        have hcapi : (L : Int) ≤ (cap : Int) := by omega
        have hL600 : L ≤ 600 := by omega
        have hL0 : ¬ L = 0 := by omega
        have hqli : (q : Int) < (L : Int) := by omega
        have hbl := hrow.1
        have hxx := u8_xor_nat (byteF (S ++ a) q) by' hvl hby
        generalize byteF (S ++ a) q = v at *
        generalize v ^^^ by' = z at *
        have HLL := Lib.hid hL
        have hati : (at' : Int) < 65536 := by omega
        have htm : (at' : Int).tmod (L : Int) = (q : Int) := (Int.tmod_eq_emod_of_nonneg (Int.natCast_nonneg _)).trans hqi
        have HH0 := Lib.hid h0
        clear hin hin1 hb5 hb1 hrow hq hat hL h0
        have hqq : q < L := hql
        go_upto_region 8 with fail
        have hrow2 := HROW.out.set q z (by rw [natL_length, List.length_append, ← HLL.out]; exact hql)
        have hll2 : ((natL (S ++ a)).set q z).length = L := by rw [List.length_set, natL_length, List.length_append, HLL.out]
        have HB6 := Lib.hid (show Below w.heap.size w (w1.setCell ⟨W5.heap.size, q, none⟩ (.int .u8 (z : Int))) from Below.setCell (HB5.out.trans (HB1.out.mono HB5.out.size)) HB5.out.size _)
        have hne : ¬ W5.heap.size = w.heap.size := by omega
        have hi0' : (w1.setCell ⟨W5.heap.size, q, none⟩ (.int .u8 (z : Int))).cell? ⟨w.heap.size, 0, none⟩ = some (.string (B k)) := by rw [World.cell?_of_block (Aes.setCell_block _ _ _ _ _ hne)]; exact hi0
        have hi1' : (w1.setCell ⟨W5.heap.size, q, none⟩ (.int .u8 (z : Int))).cell? ⟨w.heap.size, 1, none⟩ = some (.string (B n)) := by rw [World.cell?_of_block (Aes.setCell_block _ _ _ _ _ hne)]; exact hi1
        clear hi0 hi1 hj2 hcq hfq hxx hconv
        generalize w1.setCell ⟨W5.heap.size, q, none⟩ (.int .u8 (z : Int)) = W6 at *
        generalize (natL (S ++ a)).set q z = l2 at *
        generalize W5.heap.size = bb at *
        obtain ⟨s2, hs2⟩ : ∃ s2, s2 = (l2.take S.length).map UInt8.ofNat := ⟨_, rfl⟩
        obtain ⟨a2, ha2⟩ : ∃ a2, a2 = (l2.drop S.length).map UInt8.ofNat := ⟨_, rfl⟩
        have hs2l : s2.length ≤ 1000000 := by rw [hs2, List.length_map, List.length_take]; omega
        have ha2l : a2.length ≤ 1000000 := by rw [ha2, List.length_map, List.length_drop]; omega
        have hSL : S.length ≤ L := by have := HLL.out; omega
        have hst1 : (convert 24 9 (.slice (some ⟨bb, 0, none⟩) S.length cap)).run Try.prog W6.drew = .ok (.string (B s2)) W6.drew := by
          rw [hs2]
          exact string_of (P := Try.prog) _ 24 9 5 ⟨bb, 0, none⟩ S.length cap (l2.take S.length) Try.underlying24 Try.underlying5 Try.underlying9 (by rw [List.length_take]; omega) (fun j hj => by
            have e1 : (⟨bb, 0, none⟩ : Addr).add j = ⟨bb, j, none⟩ := by simp [Addr.add]; omega
            have e2 : (l2.take S.length).getD j 0 = l2.getD j 0 := by simp [List.getD, hj]
            rw [e1, e2]; exact (hrow2.2 j (by omega)).1)
        have hst2 : (convert 24 9 (.slice (if cap = S.length then some ⟨bb, 0, none⟩ else some ⟨bb, S.length, none⟩) (L - S.length) (cap - S.length))).run Try.prog W6.drew = .ok (.string (B a2)) W6.drew := by
          rw [ha2]
          split
          · next hc =>
            exact string_of (P := Try.prog) _ 24 9 5 ⟨bb, 0, none⟩ (L - S.length) (cap - S.length) (l2.drop S.length) Try.underlying24 Try.underlying5 Try.underlying9 (by rw [List.length_drop]; omega) (fun j hj => by omega)
          · exact string_of (P := Try.prog) _ 24 9 5 ⟨bb, S.length, none⟩ (L - S.length) (cap - S.length) (l2.drop S.length) Try.underlying24 Try.underlying5 Try.underlying9 (by rw [List.length_drop]; omega) (fun j hj => by
              have e1 : (⟨bb, S.length, none⟩ : Addr).add j = ⟨bb, S.length + j, none⟩ := by simp [Addr.add]
              have e2 : (l2.drop S.length).getD j 0 = l2.getD (S.length + j) 0 := by simp only [List.getD, List.getElem?_drop]
              rw [e1, e2]; exact (hrow2.2 (S.length + j) (by omega)).1)
        obtain ⟨PP, hPP⟩ : ∃ PP : Option Addr, PP = (if cap = S.length then some ⟨bb, 0, none⟩ else some ⟨bb, S.length, none⟩) := ⟨_, rfl⟩
        rw [← hPP] at hst2
        replace hPP := hPP.symm
        have H3 := Lib.hid (show ∀ W, Calls Try.prog 22 #[.string (B k), .string (B n), .string (B a2), .string (B s2), .string (B T)] W fun e w' => e = .returned (.tuple #[.string (B (openS k n a2 s2 T)), .int .i64 ((openE k n a2 s2 T : Nat) : Int)]) ∧ Below W.heap.size W w' from fun W => Gf.Open_any k n a2 s2 T W ha2l hs2l)
        have H4 := Lib.hid (show ∀ W, Calls Try.prog 23 #[.string (B k), .string (B n), .string (B a2), .string (B s2), .string (B T)] W fun e w' => e = .returned (.tuple #[.string (B (openS k n a2 s2 T)), .int .i64 ((openE k n a2 s2 T : Nat) : Int)]) ∧ Below W.heap.size W w' from fun W => Ref08.Open_any k n a2 s2 T W ha2l hs2l)
        generalize openS k n a2 s2 T = RS at *
        generalize openE k n a2 s2 T = RE at *
        have hSLi : (S.length : Int) ≤ (L : Int) := by omega
        have hSCi : (S.length : Int) ≤ (cap : Int) := by omega
        clear hs2 ha2 hrow2 hs2l ha2l
        go_region
        go_wp2_with fail
        refine Calls.ext (H3.out _) fun u5 => ?_
        go_wp2_with fail
        refine Calls.ext (H4.out _) fun u6 => ?_
        go_wp2
        go_ret
        exact ⟨by simp, HB6.out.trans (Below.mono (by ((repeat' (with_reducible first | exact Below.refl _ _ | assumption | refine Below.drew ?_ | refine below_drewN ?_ _ | refine Below.setCell ?_ ?_ _ | refine Below.alloc ?_ ?_ _ | refine Below.ext ?_ ?_ _ | refine Below.trans ?_ (Below.mono ‹_› ?_))) <;> first | omega | (simp; done) | (simp; omega))) HB6.out.size)⟩
    · have H1 := Lib.hid fun W => Seal_none k n a t W hso
      clear hso hfk hfn hfa
      go_enter Try.func9, Try.ntmps9
      go_wp2_with fail
      refine Calls.ext (H0.out _) fun u1 => ?_
      go_wp2_with fail
      refine Calls.ext (HF.out _) fun u2 => ?_
      go_wp2_with fail
      refine Calls.ext (H1.out _) fun u3 => ?_
      go_wp2
      go_ret
      exact ⟨rfl, by ((repeat' (with_reducible first | exact Below.refl _ _ | assumption | refine Below.drew ?_ | refine below_drewN ?_ _ | refine Below.setCell ?_ ?_ _ | refine Below.alloc ?_ ?_ _ | refine Below.ext ?_ ?_ _ | refine Below.trans ?_ (Below.mono ‹_› ?_))) <;> first | omega | (simp; done) | (simp; omega))⟩
  · rw [decide_eq_false hfew] at hf
    have HF := Lib.hid hf
    clear hf hfew
    go_enter Try.func9, Try.ntmps9
    go_wp2_with fail
    refine Calls.ext (H0.out _) fun u1 => ?_
    go_wp2_with fail
    refine Calls.ext (HF.out _) fun u2 => ?_
    go_wp2_with fail
    refine Calls.ext (H0.out _) fun u3 => ?_
    go_wp2
    go_ret
    exact ⟨rfl, by ((repeat' (with_reducible first | exact Below.refl _ _ | assumption | refine Below.drew ?_ | refine below_drewN ?_ _ | refine Below.setCell ?_ ?_ _ | refine Below.alloc ?_ ?_ _ | refine Below.ext ?_ ?_ _ | refine Below.trans ?_ (Below.mono ‹_› ?_))) <;> first | omega | (simp; done) | (simp; omega))⟩
set_option maxRecDepth 100000 in
theorem walk (W : World) (base : Nat) (args : Array Value) {H : Type} {enc : TypeId × Value → H} (ds : List (DataW H)) (ps : List MemPlace)
    (hval : ∀ (j : Nat) t v, Try.f9.params[j]? = some t → args[j]? = some v → Value.okWide Try.prog W .any base t v)
    (hA : DataW.TrodAll enc Try.prog W 0 (fun _ => true) true Try.f9.params.toList args.toList ds ps) (hlt : ∀ p ∈ ps, p.block < W.heap.size) :
    Calls Try.prog 9 args W fun e W' => e = .returned (.bool true) ∧ Below W.heap.size W W' := by
  rw [Try.params9] at hA hval
  obtain ⟨v0, v1, v2, d0, d1, d2, p0, p1, p2, rfl, rfl, rfl, h0, h1, h2⟩ := trodAll_three hA
  obtain ⟨k, n, a, t, rfl, hk, hn, ha, ht⟩ := open_in (hval 0 36 v0 rfl rfl) h0 (fun p hp => hlt p (by simp [hp]))
  obtain ⟨m, rfl, hm⟩ := open_int Try.underlying45 (hval 1 45 v1 rfl rfl) h1 (fun p hp => hlt p (by simp [hp]))
  obtain ⟨y, rfl, hy⟩ := open_int Try.underlying5 (hval 2 5 v2 rfl rfl) h2 (fun p hp => hlt p (by simp [hp]))
  have h1 : 0 ≤ m ∧ m < 65536 := by
    simp [Lit.wf, IntKind.min, IntKind.max, IntKind.signed, IntKind.bits] at hm
    omega
  have h2 : 0 ≤ y ∧ y < 256 := by
    simp [Lit.wf, IntKind.min, IntKind.max, IntKind.signed, IntKind.bits] at hy
    omega
  obtain ⟨c, rfl⟩ : ∃ c : Nat, m = (c : Int) := ⟨m.toNat, by omega⟩
  obtain ⟨b, rfl⟩ : ∃ b : Nat, y = (b : Int) := ⟨y.toNat, by omega⟩
  exact bent_law k n a t c b W hk hn ha ht (by omega) (by omega)
set_option maxRecDepth 100000 in
theorem lifted (os : Os) (started : os.Started) (H : Type) (enc : TypeId × Value → H) :
    ReturnsInHanded {} Try.checked os 9 .any (Rows.gcmBentSpec.pre6 enc Try.prog Try.f9 Rows.gcmBentRow.domain false) (Rows.gcmBentSpec.post enc Try.prog Try.f9 false true false false) :=
  law_lift (C := Try.checked) (tb := 4) (by kernel_rfl) started (by kernel_rfl) Try.func9
    (ChangeSpec.witness6 (enc := enc) (C := Try.checked) false ⟨#[], #[.agg #[.string ⟨#[]⟩, .string ⟨#[]⟩, .string ⟨#[]⟩, .string ⟨#[]⟩], .int .u16 0, .int .u8 0], []⟩ 8 (by kernel_rfl) (by kernel_rfl) (by kernel_rfl) (by kernel_rfl))
    (by kernel_rfl) (by kernel_rfl) rfl (by kernel_rfl) Try.underlying4 (fun ds h => by match ds, h with | [_, _, _], _ => exact ⟨rfl, rfl, rfl⟩)
    (fun W base args ds ps hval hA hlt => walk W base args ds ps hval hA hlt)
theorem over : Rows.gcmBentRow.holds Try.pinned (OpenSpec.ofChange Rows.gcmBentSpec) :=
  OpenClaim.holds_of_wide 9 Try.f9 rfl rfl rfl rfl rfl rfl rfl ⟨rfl, rfl, rfl, rfl, rfl⟩ rfl rfl rfl rfl rfl (by kernel_rfl) Try.func9 (by kernel_rfl)
    (of_decide_eq_true (by kernel_rfl)) (by unfold Func.isWrapper; rw [if_neg (of_decide_eq_false (by kernel_rfl))]; exact ⟨rfl, rfl⟩)
    (fun os started H enc _ => lifted os started H enc)
theorem proved : Rows.GcmBentSaid := over
#print axioms proved
end Go.Proofs.Ytnnoimikoddbcaa.GcmBent
