/-
  EidReads: of every item that is read, Of returns the name that has it, or an error, as the reference does.
  Conditions: none.
-/
import Derived.Test.YthoickghfjgmmaaItm14
import Derived.Test.YthoickghfjgmmaaFrameS
namespace Go.Proofs.Ythoickghfjgmmaa.EidReads
open Go.ChangeShapes Go.WideShapes Go.ChangeAt Go.RowKit Go.Deep Go.Proofs.Ythoickghfjgmmaa.Eid Go.Proofs.Ythoickghfjgmmaa.Itm
/-- The two answers are one. -/
theorem same_answer {t : Tr} {e f : Ending} (he : OfR t e) (hf : RofR t f) : f = e := by
  obtain ⟨m, k, rfl, h⟩ := he
  obtain ⟨m', k', rfl, h'⟩ := hf
  rcases h with ⟨rfl, hp, hm⟩ | ⟨rfl, rfl, hn⟩
  · rcases h' with ⟨rfl, hp'⟩ | ⟨rfl, rfl, hn'⟩
    · have : m = m' := by rw [hm, hp'.2.2, readT_tree hp'.1]
      rw [this]
    · rw [hm] at hp
      exact absurd hp hn'
  · rcases h' with ⟨rfl, hp'⟩ | ⟨rfl, rfl, _⟩
    · have : readT t = m' := by rw [hp'.2.2, readT_tree hp'.1]
      rw [this] at hn
      exact absurd hp' hn
    · rfl
set_option maxHeartbeats 1600000 in
set_option maxRecDepth 100000 in
theorem EidReads_any (t : Tr) (cs : List Value) (w : World) (h : TAt w t cs) : Calls Try.prog 8 #[.agg cs.toArray] w fun e w' => e = .returned (.bool true) ∧ Below w.heap.size w w' := by
  have HFW := Lib.hid fun (W : World) (hb : Below w.heap.size w W) => iFew_any t cs 200 W (by omega) (h.keep hb (Nat.le_refl _))
  have HOF := Lib.hid fun (W : World) (hb : Below w.heap.size w W) => Of_any t cs W (h.keep hb (Nat.le_refl _))
  have HRO := Lib.hid fun (hz : szT t ≤ 200) (W : World) (hb : Below w.heap.size w W) => rOf_any t cs W (h.keep hb (Nat.le_refl _)) hz
  have h5 : cs.toArray.size = 5 := by obtain ⟨_, _, _, he, _⟩ := h.form; rw [he]; rfl
  generalize cs.toArray = X at *
  have H5 := Lib.hid h5
  clear h h5
  go_enter Try.func8, Try.ntmps8
  go_wp2_with fail
  obtain ⟨w1, hw1⟩ : ∃ w1, w.alloc (.cells X 52) = w1 := ⟨_, rfl⟩
  have gS : w1.heap.size = w.heap.size + 1 := by rw [← hw1]; show (w.heap.push _).size = _; simp
  have gb : Below w.heap.size w w1 := by rw [← hw1]; exact (Below.refl _ _).alloc (Nat.le_refl _) _
  have q0 : w1.heap[w.heap.size]? = some (.cells X 52 (0, 0)) := by rw [← hw1]; exact heap_alloc_last w _
  rw [hw1]
  clear hw1
  have Q0 := Lib.hid q0
  have GB := Lib.hid gb
  clear q0 gb
  refine (awake_any _).mono ?_
  rintro e w2 ⟨rfl, hb2⟩
  have B2 := Lib.hid hb2
  have Q2 := Lib.hid (heap_below hb2 (by omega) Q0.out)
  have BW2 := Lib.hid (GB.out.trans (hb2.mono (by omega)))
  clear hb2 Q0
  go_wp2_with (with_reducible refine stop_load 52 rfl ?_)
  refine load_mid_g 52 (.tmp 1) rfl rfl (some 10) rfl w.heap.size 0 rfl X (rangeAt_row Q2.out) _ Try.underlying52 rfl (by rw [H5.out]; exact infoI) ?_
  go_wp2_with fail
  refine (HFW.out _ BW2.out).mono ?_
  rintro e w3 ⟨⟨k, rfl, hk⟩, hb3⟩
  have hs2 := B2.out.size
  have Q3 := Lib.hid (heap_below hb3 (by omega) Q2.out)
  have BW3 := Lib.hid (BW2.out.trans (hb3.mono BW2.out.size))
  have hs3 := hb3.size
  have HK := Lib.hid hk
  clear hb3 Q2 hk
  cases k with
  | false =>
    go_wp2_with fail
    refine (awake_any _).mono ?_
    rintro e w4 ⟨rfl, hb4⟩
    have BW4 := Lib.hid (BW3.out.trans (hb4.mono BW3.out.size))
    clear hb4
    go_wp2
    go_ret
    exact ⟨rfl, BW4.out⟩
  | true =>
    have HZ := Lib.hid (HK.out rfl)
    go_wp2_with (with_reducible refine stop_load 52 rfl ?_)
    refine load_mid 52 (.tmp 1) rfl rfl (some 16) rfl w.heap.size 0 rfl X (rangeAt_row Q3.out) _ Try.underlying52 rfl (by rw [H5.out]; exact infoI) ?_
    go_wp2_with fail
    refine (HOF.out _ BW3.out).mono ?_
    rintro e w4 ⟨hof, hb4⟩
    have Q4 := Lib.hid (heap_below hb4 (by omega) Q3.out)
    have BW4 := Lib.hid (BW3.out.trans (hb4.mono BW3.out.size))
    have hs4 := hb4.size
    have hof2 := hof
    obtain ⟨m, k, rfl, _⟩ := hof
    have HOF2 := Lib.hid hof2
    have HNV : Hid (nmV m = .agg #[.int .i64 m.s, .string (B m.l), .int .u64 m.n, .int .u64 m.v]) := Lib.hid rfl
    rw [HNV.out]
    clear hb4 Q3 hof2
    obtain ⟨w5, hw5⟩ : ∃ w5, w4.alloc (.cells #[.int .i64 m.s, .string (B m.l), .int .u64 m.n, .int .u64 m.v] 30) = w5 := ⟨_, rfl⟩
    have b5 : Below w4.heap.size w4 w5 := by rw [← hw5]; exact (Below.refl _ _).alloc (Nat.le_refl _) _
    have q5 : w5.heap[w4.heap.size]? = some (.cells #[.int .i64 m.s, .string (B m.l), .int .u64 m.n, .int .u64 m.v] 30 (0, 0)) := by rw [← hw5]; exact heap_alloc_last w4 _
    have l5 : w4.heap.size < w5.heap.size := by rw [← hw5]; exact lt_of_last
    have Q5 := Lib.hid (heap_below b5 (by omega) Q4.out)
    have BW5 := Lib.hid (BW4.out.trans (b5.mono BW4.out.size))
    have QM5 := Lib.hid q5
    clear b5 q5 Q4
    go_wp2_with (with_reducible refine stop_load 52 rfl ?_)
    refine load_mid 52 (.tmp 1) rfl rfl (some 21) rfl w.heap.size 0 rfl X (rangeAt_row Q5.out) _ Try.underlying52 rfl (by rw [H5.out]; exact infoI) ?_
    clear hw5
    go_wp2_with fail
    refine (HRO.out HZ.out _ BW5.out).mono ?_
    rintro f w6 ⟨hf, hb6⟩
    obtain rfl := same_answer HOF2.out hf
    rw [HNV.out]
    have Q6 := Lib.hid (heap_below hb6 l5 QM5.out)
    have BW6 := Lib.hid (BW5.out.trans (hb6.mono BW5.out.size))
    have hs6 := hb6.size
    clear hb6 hf Q5 QM5 HOF2 HNV
    generalize m.s = ms at *
    generalize m.l = ml at *
    generalize m.n = mn at *
    generalize m.v = mv at *
    obtain ⟨w7, hw7⟩ : ∃ w7, w6.alloc (.cells #[.int .i64 ms, .string (B ml), .int .u64 mn, .int .u64 mv] 30) = w7 := ⟨_, rfl⟩
    have b7 : Below w6.heap.size w6 w7 := by rw [← hw7]; exact (Below.refl _ _).alloc (Nat.le_refl _) _
    have q7 : w7.heap[w6.heap.size]? = some (.cells #[.int .i64 ms, .string (B ml), .int .u64 mn, .int .u64 mv] 30 (0, 0)) := by rw [← hw7]; exact heap_alloc_last w6 _
    have Q7 := Lib.hid (heap_below b7 (by omega) Q6.out)
    have BW7 := Lib.hid (BW6.out.trans (b7.mono BW6.out.size))
    have QM7 := Lib.hid q7
    clear b7 q7 Q6
    go_wp2_with (with_reducible refine stop_load 30 rfl ?_)
    refine load_mid 30 (.tmp 3) rfl rfl (some 25) rfl w4.heap.size 0 rfl #[.int .i64 ms, .string (B ml), .int .u64 mn, .int .u64 mv] (rangeAt_row Q7.out) _ Try.underlying30 rfl infoE ?_
    go_wp2_with (with_reducible refine stop_load 30 rfl ?_)
    refine load_mid 30 (.tmp 5) rfl rfl (some 26) rfl w6.heap.size 0 rfl #[.int .i64 ms, .string (B ml), .int .u64 mn, .int .u64 mv] (rangeAt_row QM7.out) _ Try.underlying30 rfl infoE ?_
    clear hw7
    go_wp2
    go_ret
    exact ⟨rfl, BW7.out⟩
set_option maxRecDepth 100000 in
theorem walk (W : World) (base : Nat) (args : Array Value) {H : Type} {enc : TypeId × Value → H} (ds : List (DataW H)) (ps : List MemPlace)
    (hval : ∀ (j : Nat) t v, Try.f8.params[j]? = some t → args[j]? = some v → Value.okWide Try.prog W .any base t v)
    (hA : DataW.TrodAll enc Try.prog W 0 (fun _ => true) true Try.f8.params.toList args.toList ds ps) (hlt : ∀ p ∈ ps, p.block < W.heap.size) (hsz : ∀ n ∈ DataW.weightsEach Try.prog Try.f8.params.toList ds, n ≤ reachBytes) :
    Calls Try.prog 8 args W fun e W' => e = .returned (.bool true) ∧ Below W.heap.size W W' := by
  rw [Try.params8] at hA hval hsz
  obtain ⟨v0, d0, rfl, rfl, h0⟩ := trodAll_one hA
  obtain ⟨t, cs, rfl, ht⟩ := open_item (hval 0 52 v0 rfl rfl) h0 hlt (fun n hn => hsz n (DataW.weights_mem_each (j := 0) rfl rfl n hn))
  exact EidReads_any t cs W ht
set_option maxRecDepth 100000 in
theorem lifted (os : Os) (started : os.Started) (H : Type) (enc : TypeId × Value → H) :
    ReturnsInHanded {} Try.checked os 8 .any (Rows.eidReadsSpec.pre6 enc Try.prog Try.f8 Rows.eidReadsRow.domain false) (Rows.eidReadsSpec.post enc Try.prog Try.f8 false true false false) :=
  law_lift_sz (C := Try.checked) (tb := 4) (by kernel_rfl) started (by kernel_rfl) Try.func8
    (ChangeSpec.witness6 (enc := enc) (C := Try.checked) false ⟨#[], #[.agg #[.int .i64 0, .int .u64 0, .string ⟨#[]⟩, .slice none 0 0, .bool false]], []⟩ 8 (by kernel_rfl) (by kernel_rfl) (by kernel_rfl) (by kernel_rfl))
    (by kernel_rfl) (by kernel_rfl) rfl (by kernel_rfl) Try.underlying4 (fun ds h => by match ds, h with | [_], _ => exact ⟨rfl, rfl, rfl⟩)
    (fun W base args ds ps hval hA hlt hsz => walk W base args ds ps hval hA hlt hsz)
theorem over : Rows.eidReadsRow.holds Try.pinned (OpenSpec.ofChange Rows.eidReadsSpec) :=
  OpenClaim.holds_of_wide 8 Try.f8 rfl rfl rfl rfl rfl rfl rfl ⟨rfl, rfl, rfl, rfl, rfl⟩ rfl rfl rfl rfl rfl (by kernel_rfl) Try.func8 (by kernel_rfl)
    (of_decide_eq_true (by kernel_rfl)) (by unfold Func.isWrapper; rw [if_neg (of_decide_eq_false (by kernel_rfl))]; exact ⟨rfl, rfl⟩)
    (fun os started H enc _ => lifted os started H enc)
theorem proved : Rows.EidReadsSaid := over
#print axioms proved
end Go.Proofs.Ythoickghfjgmmaa.EidReads
