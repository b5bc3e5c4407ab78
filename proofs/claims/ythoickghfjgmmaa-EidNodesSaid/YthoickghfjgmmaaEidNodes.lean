/-
  EidNodes: of every name the node is the reference's; it is right, and its own node; two names of one node are so whatever their services are.
  Conditions: none.
-/
import Derived.Test.YthoickghfjgmmaaRef10c
import Derived.Test.YthoickghfjgmmaaEidOpen
namespace Go.Proofs.Ythoickghfjgmmaa.Eid
open Go.ChangeShapes Go.WideShapes Go.ChangeAt Go.RowKit
theorem scan_take : ∀ (m : List UInt8) (i : Nat), scan m i ≠ 0 → scan (m.take (scan m i - (i + 2))) i = scan m i
  | [], i, h => absurd rfl h
  | c :: r, i, h => by
    obtain ⟨h1, h2⟩ := (scan_sl (c :: r) i).2 h
    by_cases hn : nb c.toNat = true
    · have e : scan (c :: r) i = scan r (i + 1) := by
        conv => lhs; unfold scan
        rw [if_pos hn]
      rw [e] at h h1 h2 ⊢
      have h3 := ((scan_sl r (i + 1)).2 h).2
      rw [show scan r (i + 1) - (i + 2) = (scan r (i + 1) - (i + 1 + 2)) + 1 by omega, List.take_succ_cons]
      conv => lhs; unfold scan
      rw [if_pos hn]
      exact scan_take r (i + 1) h
    · have e : scan (c :: r) i = if c.toNat = 47 ∧ 0 < i then i + 3 else 0 := by
        conv => lhs; unfold scan
        rw [if_neg hn]
      by_cases hc : c.toNat = 47 ∧ 0 < i
      · rw [if_pos hc] at e
        rw [e, show i + 3 - (i + 2) = 0 + 1 by omega, List.take_succ_cons]
        unfold scan
        rw [if_neg hn, if_pos hc]
      · rw [if_neg hc] at e
        exact absurd e h
theorem right_node {s : Int} {l : List UInt8} {n v : Int} (h : rightB s l n v = true) : rightB s (nodeName l) n 0 = true ∧ nodeName (nodeName l) = nodeName l := by
  by_cases h1 : s = 1
  · subst h1
    have hnv : (n = 0 ∧ v = 0) ∧ namedB l = true := by simpa [rightB] using h
    obtain ⟨⟨rfl, rfl⟩, hn⟩ := hnv
    by_cases hz : nodeN l = 0
    · have e : nodeName l = l := by unfold nodeName; rw [if_pos hz]; simp
      rw [e]
      exact ⟨h, e⟩
    · have hle := nodeN_le l
      have e : nodeName l = l.take (nodeN l) := by unfold nodeName; rw [if_neg hz]
      have hpl : pre [47, 47] l = true ∧ l.length ≤ 60 := by
        unfold nodeN at hz
        split at hz
        · assumption
        · exact absurd rfl hz
      have hk : nodeN l = scan (l.drop 2) 0 := by unfold nodeN; rw [if_pos hpl]
      have hz2 : scan (l.drop 2) 0 ≠ 0 := by rw [← hk]; exact hz
      have h3 := ((scan_sl (l.drop 2) 0).2 hz2).2
      have hp2 : pre [47, 47] (l.take (nodeN l)) = true := by
        obtain ⟨r, hr⟩ := pre_iff.1 hpl.1
        refine pre_iff.2 ⟨r.take (nodeN l - 2), ?_⟩
        conv => lhs; rw [hr]
        rw [List.take_append]
        rw [← hr]
        rw [List.take_of_length_le (by simp; omega)]
        rfl
      have hN : nodeN (l.take (nodeN l)) = nodeN l := by
        have h60 : (l.take (nodeN l)).length ≤ 60 := by simp; omega
        rw [show nodeN (l.take (nodeN l)) = scan ((l.take (nodeN l)).drop 2) 0 from if_pos ⟨hp2, h60⟩, List.drop_take, hk]
        exact scan_take (l.drop 2) 0 hz2
      rw [e]
      refine ⟨?_, ?_⟩
      · have : namedB (l.take (nodeN l)) = true := by
          unfold namedB
          rw [hN]
          have d : (l.take (nodeN l)).drop (nodeN l) = [] := List.drop_of_length_le (by simp; omega)
          rw [d]
          simp [hz]
        simp [rightB, this]
      · unfold nodeName
        rw [hN, if_neg hz]
        rw [List.take_take, Nat.min_self]
  · have h2 : s = 2 := by
      by_cases h2 : s = 2
      · exact h2
      · simp [rightB, h1, h2] at h
    subst h2
    have hn : l = [] ∧ n ≤ 4294967295 ∧ v ≤ 4294967295 := by simpa [rightB] using h
    obtain ⟨rfl, hn, hv⟩ := hn
    have e : nodeName [] = [] := by unfold nodeName; simp
    rw [e]
    exact ⟨by simp [rightB, hn], e⟩
theorem EidNodes_bad (s : Int) (l : List UInt8) (n v c : Int) (w : World) (hl : l.length ≤ 100) (h : rightB s l n v = false) :
    Calls Try.prog 4 #[.agg #[.int .i64 s, .string (B l), .int .u64 n, .int .u64 v], .int .u32 c] w fun e w' => e = .returned (.bool true) ∧ Below w.heap.size w w' := by
  have H1 := fun W => Node_no s l n v W (by unfold maxLen; omega) h
  have H2 := fun W => rRight_any s l n v W
  rw [h] at H2
  go_enter Try.func4, Try.ntmps4
  go_wp2_with fail
  refine Calls.ext (awake_any _) fun u => ?_
  go_wp2_with fail
  refine Calls.ext (Few_any _ _ _ _ _) fun u2 => ?_
  go_wp2_with fail
  refine Calls.ext (H1 _) fun u3 => ?_
  go_wp2_with fail
  refine Calls.ext (H2 _) fun u4 => ?_
  go_wp2
  go_ret
  exact ⟨rfl, by ((repeat' (with_reducible first | exact Below.refl _ _ | assumption | refine Below.drew ?_ | refine below_drewN ?_ _ | refine Below.setCell ?_ ?_ _ | refine Below.alloc ?_ ?_ _ | refine Below.ext ?_ ?_ _ | refine Below.trans ?_ (Below.mono ‹_› ?_))) <;> first | omega | (simp; done) | (simp; omega))⟩
theorem EidNodes_long (s : Int) (l : List UInt8) (n v c : Int) (w : World) (hl : ¬ l.length ≤ 100) :
    Calls Try.prog 4 #[.agg #[.int .i64 s, .string (B l), .int .u64 n, .int .u64 v], .int .u32 c] w fun e w' => e = .returned (.bool true) ∧ Below w.heap.size w w' := by
  go_enter Try.func4, Try.ntmps4
  go_wp2_with fail
  refine Calls.ext (awake_any _) fun u => ?_
  go_wp2_with fail
  refine Calls.ext (Few_any _ _ _ _ _) fun u2 => ?_
  go_wp2_with fail
  refine Calls.ext (awake_any _) fun u3 => ?_
  go_wp2
  go_ret
  exact ⟨rfl, by ((repeat' (with_reducible first | exact Below.refl _ _ | assumption | refine Below.drew ?_ | refine below_drewN ?_ _ | refine Below.setCell ?_ ?_ _ | refine Below.alloc ?_ ?_ _ | refine Below.ext ?_ ?_ _ | refine Below.trans ?_ (Below.mono ‹_› ?_))) <;> first | omega | (simp; done) | (simp; omega))⟩
theorem EidNodes_good (s : Int) (l : List UInt8) (n v c : Int) (w : World) (hc0 : 0 ≤ c) (hc : c ≤ 4294967295) (hl : l.length ≤ 100) (h : rightB s l n v = true) :
    Calls Try.prog 4 #[.agg #[.int .i64 s, .string (B l), .int .u64 n, .int .u64 v], .int .u32 c] w fun e w' => e = .returned (.bool true) ∧ Below w.heap.size w w' := by
  obtain ⟨hr, hnn⟩ := right_node h
  have hnl : (nodeName l).length ≤ 100 := by unfold nodeName; simp; omega
  have H1 := fun W => Node_yes s l n v W (by unfold maxLen; omega) h
  have H2 := fun W => rRight_any s l n v W
  have H3 := fun W => rNode_right s l n v W (by unfold maxLen; omega) h
  have H4 := fun W => Node_yes s (nodeName l) n 0 W (by unfold maxLen; omega) hr
  rw [h] at H2
  rw [hnn] at H4
  have h12 : s = 1 ∨ s = 2 := by
    by_cases h1 : s = 1
    · exact Or.inl h1
    · by_cases h2 : s = 2
      · exact Or.inr h2
      · simp [rightB, h1, h2] at h
  cases h5 : rightB s l n c
  · have H5 := fun W => Node_no s l n c W (by unfold maxLen; omega) h5
    have hs : s = 1 ∧ ¬ c = 0 := by
      rcases h12 with rfl | rfl
      · refine ⟨rfl, fun h0 => ?_⟩
        subst h0
        simp [rightB] at h h5
        exact absurd h.2 (by rw [h5 h.1.1]; decide)
      · simp [rightB] at h h5
        exact absurd hc (by have := h5 h.1 h.2.1; omega)
    obtain ⟨rfl, hcn⟩ := hs
    have hcn' : (c == 0) = false := by rw [beq_eq_false_iff_ne]; exact hcn
    clear h h5 hr hnn hcn
    generalize nodeName l = x at *
    go_enter Try.func4, Try.ntmps4
    go_wp2_with fail
    refine Calls.ext (awake_any _) fun u => ?_
    go_wp2_with fail
    refine Calls.ext (Few_any _ _ _ _ _) fun u2 => ?_
    go_wp2_with fail
    refine Calls.ext (H1 _) fun u3 => ?_
    go_wp2_with fail
    refine Calls.ext (H2 _) fun u4 => ?_
    go_wp2_with fail
    refine Calls.ext (H3 _) fun u5 => ?_
    go_wp2_with fail
    refine Calls.ext (H4 _) fun u6 => ?_
    go_wp2_with fail
    refine Calls.ext (H5 _) fun u7 => ?_
    go_wp2
    (refine wp_region_ext_lit (by kernel_rfl) (by kernel_rfl) ?_; (repeat (any_goals (first | go_big_quiet_step (fail) | quiet_step (fail)))); refine wpQuiet_nil ?_; rintro _ ⟨u8, rfl⟩)
    go_wp2
    go_ret
    exact ⟨rfl, by ((repeat' (with_reducible first | exact Below.refl _ _ | assumption | refine Below.drew ?_ | refine below_drewN ?_ _ | refine Below.setCell ?_ ?_ _ | refine Below.alloc ?_ ?_ _ | refine Below.ext ?_ ?_ _ | refine Below.trans ?_ (Below.mono ‹_› ?_))) <;> first | omega | (simp; done) | (simp; omega))⟩
  · have H5 := fun W => Node_yes s l n c W (by unfold maxLen; omega) h5
    rcases h12 with rfl | rfl
    · obtain rfl : c = 0 := by
        have : (n = 0 ∧ c = 0) ∧ namedB l = true := by simpa [rightB] using h5
        exact this.1.2
      clear h h5 hr hnn
      generalize nodeName l = x at *
      go_enter Try.func4, Try.ntmps4
      go_wp2_with fail
      refine Calls.ext (awake_any _) fun u => ?_
      go_wp2_with fail
      refine Calls.ext (Few_any _ _ _ _ _) fun u2 => ?_
      go_wp2_with fail
      refine Calls.ext (H1 _) fun u3 => ?_
      go_wp2_with fail
      refine Calls.ext (H2 _) fun u4 => ?_
      go_wp2_with fail
      refine Calls.ext (H3 _) fun u5 => ?_
      go_wp2_with fail
      refine Calls.ext (H4 _) fun u6 => ?_
      go_wp2_with fail
      refine Calls.ext (H5 _) fun u7 => ?_
      go_wp2
      (refine wp_region_ext_lit (by kernel_rfl) (by kernel_rfl) ?_; (repeat (any_goals (first | go_big_quiet_step (fail) | quiet_step (fail)))); refine wpQuiet_nil ?_; rintro _ ⟨u8, rfl⟩)
      go_wp2
      go_ret
      exact ⟨rfl, by ((repeat' (with_reducible first | exact Below.refl _ _ | assumption | refine Below.drew ?_ | refine below_drewN ?_ _ | refine Below.setCell ?_ ?_ _ | refine Below.alloc ?_ ?_ _ | refine Below.ext ?_ ?_ _ | refine Below.trans ?_ (Below.mono ‹_› ?_))) <;> first | omega | (simp; done) | (simp; omega))⟩
    · clear h h5 hr hnn
      generalize nodeName l = x at *
      go_enter Try.func4, Try.ntmps4
      go_wp2_with fail
      refine Calls.ext (awake_any _) fun u => ?_
      go_wp2_with fail
      refine Calls.ext (Few_any _ _ _ _ _) fun u2 => ?_
      go_wp2_with fail
      refine Calls.ext (H1 _) fun u3 => ?_
      go_wp2_with fail
      refine Calls.ext (H2 _) fun u4 => ?_
      go_wp2_with fail
      refine Calls.ext (H3 _) fun u5 => ?_
      go_wp2_with fail
      refine Calls.ext (H4 _) fun u6 => ?_
      go_wp2_with fail
      refine Calls.ext (H5 _) fun u7 => ?_
      go_wp2
      (refine wp_region_ext_lit (by kernel_rfl) (by kernel_rfl) ?_; (repeat (any_goals (first | go_big_quiet_step (fail) | quiet_step (fail)))); refine wpQuiet_nil ?_; rintro _ ⟨u8, rfl⟩)
      go_wp2
      go_ret
      exact ⟨rfl, by ((repeat' (with_reducible first | exact Below.refl _ _ | assumption | refine Below.drew ?_ | refine below_drewN ?_ _ | refine Below.setCell ?_ ?_ _ | refine Below.alloc ?_ ?_ _ | refine Below.ext ?_ ?_ _ | refine Below.trans ?_ (Below.mono ‹_› ?_))) <;> first | omega | (simp; done) | (simp; omega))⟩

theorem EidNodes_any (s : Int) (l : List UInt8) (n v c : Int) (w : World) (hc0 : 0 ≤ c) (hc : c ≤ 4294967295) :
    Calls Try.prog 4 #[.agg #[.int .i64 s, .string (B l), .int .u64 n, .int .u64 v], .int .u32 c] w fun e w' => e = .returned (.bool true) ∧ Below w.heap.size w w' := by
  by_cases hl : l.length ≤ 100
  · cases h : rightB s l n v
    · exact EidNodes_bad s l n v c w hl h
    · exact EidNodes_good s l n v c w hc0 hc hl h
  · exact EidNodes_long s l n v c w hl
end Go.Proofs.Ythoickghfjgmmaa.Eid
namespace Go.Proofs.Ythoickghfjgmmaa.EidNodes
open Go.ChangeShapes Go.WideShapes Go.ChangeAt Go.RowKit
set_option maxRecDepth 100000 in
theorem walk (W : World) (base : Nat) (args : Array Value) {H : Type} {enc : TypeId × Value → H} (ds : List (DataW H)) (ps : List MemPlace)
    (hval : ∀ (j : Nat) t v, Try.f4.params[j]? = some t → args[j]? = some v → Value.okWide Try.prog W .any base t v)
    (hA : DataW.TrodAll enc Try.prog W 0 (fun _ => true) true Try.f4.params.toList args.toList ds ps) (hlt : ∀ p ∈ ps, p.block < W.heap.size) :
    Calls Try.prog 4 args W fun e W' => e = .returned (.bool true) ∧ Below W.heap.size W W' := by
  rw [Try.params4] at hA hval
  obtain ⟨v0, v1, d0, d1, p0, p1, rfl, rfl, rfl, h0, h1⟩ := trodAll_two hA
  obtain ⟨s, l, n, v, rfl⟩ := Eid.open_eid (hval 0 30 v0 rfl rfl) h0 (fun p hp => hlt p (by simp [hp]))
  obtain ⟨c, rfl, rfl, rfl, wc⟩ := open_int Try.underlying31 (hval 1 31 v1 rfl rfl) h1
  obtain ⟨hc0, hc1⟩ := bounds_u32 wc
  exact Eid.EidNodes_any s l n v c W hc0 hc1
set_option maxRecDepth 100000 in
theorem lifted (os : Os) (started : os.Started) (H : Type) (enc : TypeId × Value → H) :
    ReturnsInHanded {} Try.checked os 4 .any (Rows.eidNodesSpec.pre6 enc Try.prog Try.f4 Rows.eidNodesRow.domain false) (Rows.eidNodesSpec.post enc Try.prog Try.f4 false true false false) :=
  law_lift (C := Try.checked) (tb := 4) (by kernel_rfl) started (by kernel_rfl) Try.func4
    (ChangeSpec.witness6 (enc := enc) (C := Try.checked) false ⟨#[], #[.agg #[.int .i64 0, .string ⟨#[]⟩, .int .u64 0, .int .u64 0], .int .u32 0], []⟩ 8 (by kernel_rfl) (by kernel_rfl) (by kernel_rfl) (by kernel_rfl))
    (by kernel_rfl) (by kernel_rfl) rfl (by kernel_rfl) Try.underlying4 (fun ds h => by match ds, h with | [_, _], _ => exact ⟨rfl, rfl, rfl⟩)
    (fun W base args ds ps hval hA hlt => walk W base args ds ps hval hA hlt)
theorem over : Rows.eidNodesRow.holds Try.pinned (OpenSpec.ofChange Rows.eidNodesSpec) :=
  OpenClaim.holds_of_wide 4 Try.f4 rfl rfl rfl rfl rfl rfl rfl ⟨rfl, rfl, rfl, rfl, rfl⟩ rfl rfl rfl rfl rfl (by kernel_rfl) Try.func4 (by kernel_rfl)
    (of_decide_eq_true (by kernel_rfl)) (by unfold Func.isWrapper; rw [if_neg (of_decide_eq_false (by kernel_rfl))]; exact ⟨rfl, rfl⟩)
    (fun os started H enc _ => lifted os started H enc)
theorem proved : Rows.EidNodesSaid := over
#print axioms proved
end Go.Proofs.Ythoickghfjgmmaa.EidNodes
