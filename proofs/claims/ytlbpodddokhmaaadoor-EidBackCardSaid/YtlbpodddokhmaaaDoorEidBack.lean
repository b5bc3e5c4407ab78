/-
  EidBack: a valid name comes again from its item, and from its text.
  Conditions: none (the library's variables are as the program's text lays them: the card ties that).
-/
import Derived.Test.YtlbpodddokhmaaaDoorPrs3
import Derived.Test.YtlbpodddokhmaaaDoorItm11
import Derived.Test.YtlbpodddokhmaaaDoorFrameU
import Derived.Test.YtlbpodddokhmaaaDoorEid3
import Derived.Test.YtlbpodddokhmaaaDoorRef10b
import Derived.Test.YtlbpodddokhmaaaDoorEidOpen
import Derived.Test.YtlbpodddokhmaaaDoorTie
import Derived.Test.YtlbpodddokhmaaaDoorCards
import Derived.SevenTiedAt
namespace Go.Proofs.YtlbpodddokhmaaaDoor.EidBack
open Go.ChangeShapes Go.WideShapes Go.ChangeAt Go.RowKit Go.Deep Go.Proofs.YtlbpodddokhmaaaDoor.Eid Go.Proofs.YtlbpodddokhmaaaDoor.Itm Go.Proofs.YtlbpodddokhmaaaDoor.Fmt
theorem tree_right {m : Nm} (h : m.right = true) : rightT 8 m.tree = true := by
  unfold Nm.tree nameT twoT
  split
  · rfl
  · split
    · rfl
    · simp [arrT, numT, rightT, okN, Tr.k, Tr.n, Tr.s, Tr.l, Tr.o]
set_option maxHeartbeats 1600000 in
set_option maxRecDepth 100000 in
theorem law_wrong (s : Int) (l : List UInt8) (n v : Nat) (w : World) (hr : rightB s l n v = false) : Calls Tryd.prog 4 #[.agg #[.int .i64 s, .string (B l), .int .u64 n, .int .u64 v]] w fun e w' => e = .returned (.bool true) ∧ Below w.heap.size w w' := by
  have HRI := Lib.hid fun W => rRight_any s l n v W
  rw [hr] at HRI
  clear hr
  go_enter Tryd.func4, Tryd.ntmps4
  go_wp2_with fail
  obtain ⟨w0, hw0⟩ : ∃ w0, w.alloc (.cells #[.int .i64 s, .string (B l), .int .u64 n, .int .u64 v] 25) = w0 := ⟨_, rfl⟩
  have gS : w0.heap.size = w.heap.size + 1 := by rw [← hw0]; show (w.heap.push _).size = _; simp
  have gb : Below w.heap.size w w0 := by rw [← hw0]; exact (Below.refl _ _).alloc (Nat.le_refl _) _
  have q0 : w0.heap[w.heap.size]? = some (.cells #[.int .i64 s, .string (B l), .int .u64 n, .int .u64 v] 25 (0, 0)) := by rw [← hw0]; exact heap_alloc_last w _
  rw [hw0]
  clear hw0
  refine (awake_any _).mono ?_
  rintro e w1 ⟨rfl, hb⟩
  have hz1 : w.heap.size < w1.heap.size := by have := hb.size; omega
  have Q1 := Lib.hid (heap_below hb (by omega) q0)
  have B1 := Lib.hid (gb.trans (hb.mono (by omega)))
  clear hb gb q0 gS
  go_wp2_with (with_reducible refine stop_load 25 rfl ?_)
  refine load_mid_g 25 (.tmp 1) rfl rfl (some 14) rfl w.heap.size 0 rfl #[.int .i64 s, .string (B l), .int .u64 n, .int .u64 v] (rangeAt_row Q1.out) _ Tryd.underlying25 rfl infoE ?_
  go_wp2_with fail
  refine (HRI.out _).mono ?_
  rintro e w2 ⟨rfl, hb⟩
  have hz2 : w.heap.size < w2.heap.size := by have := hb.size; omega
  have Q2 := Lib.hid (heap_below hb hz1 Q1.out)
  have B2 := Lib.hid (B1.out.trans (hb.mono B1.out.size))
  clear hb Q1 B1 hz1
  go_wp2_with fail
  refine (awake_any _).mono ?_
  rintro e w3 ⟨rfl, hb⟩
  have B3 := Lib.hid (B2.out.trans (hb.mono B2.out.size))
  clear hb
  go_wp2
  go_ret
  exact ⟨rfl, B3.out⟩
set_option maxHeartbeats 3200000 in
set_option maxRecDepth 100000 in
theorem law_right (m : Nm) (w : World) (hn : m.n < W64) (hv : m.v < W64) (hr : m.right = true) (hg : Glob w) : Calls Tryd.prog 4 #[nmV m] w fun e w' => e = .returned (.bool true) ∧ Below w.heap.size w w' := by
  have hl := right_len hr
  have hlm : m.l.length ≤ maxLen := Nat.le_trans hl (by decide)
  have hl7 : m.l.length ≤ R47 := by unfold R47; omega
  have hs12 := right_scheme hr
  have HRI := Lib.hid fun W => rRight_any m.s m.l m.n m.v W
  have HIT := Lib.hid fun W => Item_any m.s m.l m.n m.v W hlm hl7 hn hv hr
  have HTX := Lib.hid fun (W : World) (ht : Tab W) => Text_yes m.s m.l m.n m.v W (by omega) hn hv hr ht
  have HOF := Lib.hid fun (W : World) (ds : List Value) (ht : TAt W m.tree ds) => (Of_any m.tree ds W ht).mono fun e w' ⟨h, hb⟩ => show e = Ending.returned (.tuple #[nmV m, .int .i64 0]) ∧ Below W.heap.size W w' from ⟨by
    obtain ⟨m', k, rfl, h⟩ := h
    rcases h with ⟨rfl, _, hm⟩ | ⟨_, _, hno⟩
    · rw [hm, readT_tree hr]; rfl
    · rw [readT_tree hr] at hno
      exact absurd ⟨hr, tree_right hr, rfl⟩ hno, hb⟩
  have HPA := Lib.hid fun (W : World) (hW : Glob W) => (Parse_any (textB m.s m.l m.n m.v) (by
      unfold textB
      have h1 := dec_len20 hn
      have h2 := dec_len20 hv
      split <;> simp <;> omega) W hW).mono fun e w' ⟨h, hb⟩ => show e = Ending.returned (.tuple #[nmV m, .int .i64 0]) ∧ Below W.heap.size W w' from ⟨by
    obtain ⟨m', k, rfl, h⟩ := h
    rcases h with ⟨rfl, hr', ht'⟩ | ⟨_, _, hno⟩
    · rw [text_inj hr' hr ht']; rfl
    · exact absurd rfl (hno m hr), hb⟩
  have HG := Lib.hid hg
  have hrr : rightB m.s m.l m.n m.v = true := hr
  rw [hrr] at HRI
  have HNV : Hid (nmV m = .agg #[.int .i64 m.s, .string (B m.l), .int .u64 m.n, .int .u64 m.v]) := Lib.hid rfl
  have HTR : Hid (nameT m.s m.l m.n m.v = m.tree) := Lib.hid rfl
  rw [HNV.out] at HOF HPA ⊢
  unfold TwoI at HIT
  rw [HTR.out] at HIT
  clear hl hlm hl7 hs12 hn hv hr hg hrr HNV HTR
  generalize textB m.s m.l m.n m.v = T at *
  generalize m.tree = mt at *
  generalize hsi : (m.s : Int) = s at *
  generalize m.l = l at *
  generalize m.n = n at *
  generalize m.v = v at *
  clear hsi
  go_enter Tryd.func4, Tryd.ntmps4
  go_wp2_with fail
  obtain ⟨w0, hw0⟩ : ∃ w0, w.alloc (.cells #[.int .i64 s, .string (B l), .int .u64 n, .int .u64 v] 25) = w0 := ⟨_, rfl⟩
  have gS : w0.heap.size = w.heap.size + 1 := by rw [← hw0]; show (w.heap.push _).size = _; simp
  have gb : Below w.heap.size w w0 := by rw [← hw0]; exact (Below.refl _ _).alloc (Nat.le_refl _) _
  have q0 : w0.heap[w.heap.size]? = some (.cells #[.int .i64 s, .string (B l), .int .u64 n, .int .u64 v] 25 (0, 0)) := by rw [← hw0]; exact heap_alloc_last w _
  rw [hw0]
  clear hw0
  refine (awake_any _).mono ?_
  rintro e w1 ⟨rfl, hb⟩
  have hz1 : w.heap.size < w1.heap.size := by have := hb.size; omega
  have Q1 := Lib.hid (heap_below hb (by omega) q0)
  have B1 := Lib.hid (gb.trans (hb.mono (by omega)))
  clear hb gb q0 gS
  go_wp2_with (with_reducible refine stop_load 25 rfl ?_)
  refine load_mid_g 25 (.tmp 1) rfl rfl (some 14) rfl w.heap.size 0 rfl #[.int .i64 s, .string (B l), .int .u64 n, .int .u64 v] (rangeAt_row Q1.out) _ Tryd.underlying25 rfl infoE ?_
  go_wp2_with fail
  refine (HRI.out _).mono ?_
  rintro e w2 ⟨rfl, hb⟩
  have hz2 : w.heap.size < w2.heap.size := by have := hb.size; omega
  have Q2 := Lib.hid (heap_below hb hz1 Q1.out)
  have B2 := Lib.hid (B1.out.trans (hb.mono B1.out.size))
  clear hb Q1 B1 hz1
  go_wp2_with (with_reducible refine stop_load 25 rfl ?_)
  refine load_mid 25 (.tmp 1) rfl rfl (some 20) rfl w.heap.size 0 rfl #[.int .i64 s, .string (B l), .int .u64 n, .int .u64 v] (rangeAt_row Q2.out) _ Tryd.underlying25 rfl infoE ?_
  go_wp2_with fail
  refine (HIT.out _).mono ?_
  rintro e w4 ⟨dx, rfl, htd, hb⟩
  have hz4 : w.heap.size < w4.heap.size := by have := hb.size; omega
  have Q4 := Lib.hid (heap_below hb hz2 Q2.out)
  have B4 := Lib.hid (B2.out.trans (hb.mono B2.out.size))
  have hd5 : dx.toArray.size = 5 := by rw [List.size_toArray]; exact tat_len htd
  have HD1 := Lib.hid (item_oneCell htd)
  have HTD := Lib.hid htd
  have HOFX := Lib.hid fun (W : World) (hd : TAt W mt dx) => HOF.out W dx hd
  have X5 := Lib.hid hd5
  clear hb htd hd5 Q2 B2 HOF
  generalize dx.toArray = X at *
  go_wp2_with (with_reducible refine stop_store 33 rfl ?_)
  refine store_row 33 (.tmp 3) (.tmp 22) rfl rfl rfl w4.heap.size X rfl rfl 33 #[.int .i64 0, .int .u64 0, .string ⟨#[]⟩, .slice none 0 0, .bool false] (heap_alloc_last w4 _) (by rw [X5.out]; exact infoI) (by rw [X5.out]; rfl) HD1.out ?_
  rw [World.setRow_alloc_new]
  obtain ⟨w5, hw5⟩ : ∃ w5, w4.alloc (.cells X 33) = w5 := ⟨_, rfl⟩
  have hb5 : Below w4.heap.size w4 w5 := by rw [← hw5]; exact (Below.refl _ _).alloc (Nat.le_refl _) _
  have hx5 : w4.heap.size < w5.heap.size := by rw [← hw5]; exact lt_of_last
  have qx5 : w5.heap[w4.heap.size]? = some (.cells X 33 (0, 0)) := by rw [← hw5]; exact heap_alloc_last w4 _
  rw [hw5]
  clear hw5
  have hz5 : w.heap.size < w5.heap.size := by have := hb5.size; omega
  have Q5 := Lib.hid (heap_below hb5 hz4 Q4.out)
  have B5 := Lib.hid (B4.out.trans (hb5.mono B4.out.size))
  have T5 := Lib.hid (HTD.out.keep hb5 (Nat.le_refl _))
  have QX5 := Lib.hid qx5
  obtain ⟨x, hx⟩ : ∃ x, w4.heap.size = x := ⟨_, rfl⟩
  rw [hx] at hx5 QX5 ⊢
  clear hb5 qx5 Q4 B4 hx HTD
  go_wp2_with (with_reducible refine stop_load 25 rfl ?_)
  refine load_mid 25 (.tmp 1) rfl rfl (some 25) rfl w.heap.size 0 rfl #[.int .i64 s, .string (B l), .int .u64 n, .int .u64 v] (rangeAt_row Q5.out) _ Tryd.underlying25 rfl infoE ?_
  go_wp2_with fail
  refine (HTX.out _ (HG.out.below B5.out).1).mono ?_
  rintro e w6 ⟨rfl, hb⟩
  have hz6 : w.heap.size < w6.heap.size := by have := hb.size; omega
  have hx6 : x < w6.heap.size := by have := hb.size; omega
  have Q6 := Lib.hid (heap_below hb hz5 Q5.out)
  have QX6 := Lib.hid (heap_below hb hx5 QX5.out)
  have T6 := Lib.hid (T5.out.keep hb (Nat.le_refl _))
  have B6 := Lib.hid (B5.out.trans (hb.mono B5.out.size))
  clear hb T5 Q5 B5 QX5
  go_wp2_with (with_reducible refine stop_load 33 rfl ?_)
  refine load_mid 33 (.tmp 3) rfl rfl (some 30) rfl x 0 rfl X (rangeAt_row QX6.out) _ Tryd.underlying33 rfl (by rw [X5.out]; exact infoI) ?_
  go_wp2_with fail
  refine (HOFX.out _ T6.out).mono ?_
  rintro e w7 ⟨rfl, hb⟩
  have hz7 : w.heap.size < w7.heap.size := by have := hb.size; omega
  have Q7 := Lib.hid (heap_below hb hz6 Q6.out)
  have B7 := Lib.hid (B6.out.trans (hb.mono B6.out.size))
  clear hb T6 Q6 B6 QX6 HOFX
  go_wp2_with (with_reducible refine stop_store 25 rfl ?_)
  refine store_row 25 (.tmp 7) (.tmp 32) rfl rfl rfl w7.heap.size #[.int .i64 s, .string (B l), .int .u64 n, .int .u64 v] rfl rfl 25 #[.int .i64 0, .string ⟨#[]⟩, .int .u64 0, .int .u64 0] (heap_alloc_last w7 _) infoE rfl (by simp [Value.oneCell']) ?_
  rw [World.setRow_alloc_new]
  obtain ⟨w8, hw8⟩ : ∃ w8, w7.alloc (.cells #[.int .i64 s, .string (B l), .int .u64 n, .int .u64 v] 25) = w8 := ⟨_, rfl⟩
  have b8 : Below w7.heap.size w7 w8 := by rw [← hw8]; exact (Below.refl _ _).alloc (Nat.le_refl _) _
  have q8 : w8.heap[w7.heap.size]? = some (.cells #[.int .i64 s, .string (B l), .int .u64 n, .int .u64 v] 25 (0, 0)) := by rw [← hw8]; exact heap_alloc_last w7 _
  have l8 : w7.heap.size < w8.heap.size := by rw [← hw8]; exact lt_of_last
  rw [hw8]
  clear hw8
  have hz8 : w.heap.size < w8.heap.size := by omega
  have Q8 := Lib.hid (heap_below b8 hz7 Q7.out)
  have B8 := Lib.hid (B7.out.trans (b8.mono B7.out.size))
  have QA8 := Lib.hid q8
  obtain ⟨y, hy⟩ : ∃ y, w7.heap.size = y := ⟨_, rfl⟩
  rw [hy] at l8 QA8 ⊢
  clear b8 q8 Q7 B7 hy
  go_wp2_with fail
  refine (HPA.out _ (HG.out.below B8.out)).mono ?_
  rintro e w9 ⟨rfl, hb⟩
  have hz9 : w.heap.size < w9.heap.size := by have := hb.size; omega
  have Q9 := Lib.hid (heap_below hb hz8 Q8.out)
  have QA9 := Lib.hid (heap_below hb l8 QA8.out)
  have ly9 : y < w9.heap.size := by have := hb.size; omega
  have B9 := Lib.hid (B8.out.trans (hb.mono B8.out.size))
  clear hb Q8 QA8 B8
  go_wp2_with (with_reducible refine stop_store 25 rfl ?_)
  refine store_row 25 (.tmp 9) (.tmp 37) rfl rfl rfl w9.heap.size #[.int .i64 s, .string (B l), .int .u64 n, .int .u64 v] rfl rfl 25 #[.int .i64 0, .string ⟨#[]⟩, .int .u64 0, .int .u64 0] (heap_alloc_last w9 _) infoE rfl (by simp [Value.oneCell']) ?_
  rw [World.setRow_alloc_new]
  obtain ⟨wa, hwa⟩ : ∃ wa, w9.alloc (.cells #[.int .i64 s, .string (B l), .int .u64 n, .int .u64 v] 25) = wa := ⟨_, rfl⟩
  have ba : Below w9.heap.size w9 wa := by rw [← hwa]; exact (Below.refl _ _).alloc (Nat.le_refl _) _
  have qa : wa.heap[w9.heap.size]? = some (.cells #[.int .i64 s, .string (B l), .int .u64 n, .int .u64 v] 25 (0, 0)) := by rw [← hwa]; exact heap_alloc_last w9 _
  rw [hwa]
  clear hwa
  have QE := Lib.hid (heap_below ba hz9 Q9.out)
  have QA := Lib.hid (heap_below ba ly9 QA9.out)
  have QB := Lib.hid qa
  have BA := Lib.hid (B9.out.trans (ba.mono B9.out.size))
  clear ba qa Q9 QA9 B9
  go_wp2_with (with_reducible refine stop_load 25 rfl ?_)
  refine load_mid_g 25 (.tmp 7) rfl rfl (some 46) rfl y 0 rfl #[.int .i64 s, .string (B l), .int .u64 n, .int .u64 v] (rangeAt_row QA.out) _ Tryd.underlying25 rfl infoE ?_
  go_wp2_with (with_reducible refine stop_load 25 rfl ?_)
  refine load_mid_g 25 (.tmp 1) rfl rfl (some 47) rfl w.heap.size 0 rfl #[.int .i64 s, .string (B l), .int .u64 n, .int .u64 v] (rangeAt_row QE.out) _ Tryd.underlying25 rfl infoE ?_
  go_wp2_with (with_reducible refine stop_load 25 rfl ?_)
  refine load_mid_g 25 (.tmp 9) rfl (by first | kernel_rfl | (simp; done)) (some 51) rfl w9.heap.size 0 rfl #[.int .i64 s, .string (B l), .int .u64 n, .int .u64 v] (rangeAt_row QB.out) _ Tryd.underlying25 rfl infoE ?_
  go_wp2_with (with_reducible refine stop_load 25 rfl ?_)
  refine load_mid_g 25 (.tmp 1) rfl (by first | kernel_rfl | (simp; done)) (some 52) rfl w.heap.size 0 rfl #[.int .i64 s, .string (B l), .int .u64 n, .int .u64 v] (rangeAt_row QE.out) _ Tryd.underlying25 rfl infoE ?_
  go_wp2
  go_ret
  exact ⟨rfl, BA.out⟩
set_option maxRecDepth 100000 in
theorem walk (W : World) (base : Nat) (args : Array Value) {H : Type} {enc : TypeId × Value → H} (ds : List (DataW H)) (ps : List MemPlace) (hg : GlobAt W)
    (hval : ∀ (j : Nat) t v, Tryd.f4.params[j]? = some t → args[j]? = some v → Value.okWide Tryd.prog W .any base t v)
    (hA : DataW.TrodAll enc Tryd.prog W 0 (fun _ => true) true Tryd.f4.params.toList args.toList ds ps) (hlt : ∀ p ∈ ps, p.block < W.heap.size) :
    Calls Tryd.prog 4 args W fun e W' => e = .returned (.bool true) ∧ Below W.heap.size W W' := by
  rw [Tryd.params4] at hA hval
  obtain ⟨v0, d0, rfl, rfl, h0⟩ := trodAll_one hA
  obtain ⟨s, l, n, v, rfl, hn, hv⟩ := Eid.open_eid_nat (hval 0 25 v0 rfl rfl) h0 hlt
  cases hr : rightB s l n v with
  | false => exact law_wrong s l n v W hr
  | true =>
    have hs : s = 1 ∨ s = 2 := by
      have h := hr
      unfold rightB at h
      split at h
      · exact .inl ‹_›
      · split at h
        · exact .inr ‹_›
        · cases h
    rcases hs with rfl | rfl
    · exact law_right ⟨1, l, n, v⟩ W hn hv hr hg
    · exact law_right ⟨2, l, n, v⟩ W hn hv hr hg
set_option maxRecDepth 100000 in
theorem door_met (os : Os) (args : Array Value) : laidMetH Tryd.prog laidL ((World.doorLaid Tryd.prog 400 os).forCall (fun _ _ => 0) ⟨#[], args, []⟩).memory :=
  laidMetH_of_parts3 (fuel := 8) (laidMet_of_run' 8 (by kernel_rfl) (by kernel_rfl)) (by kernel_rfl) (by kernel_rfl)
set_option maxRecDepth 100000 in
theorem lifted (os : Os) (started : os.Started) (H : Type) (enc : TypeId × Value → H) :
    ReturnsInHanded {} Tryd.checked os 4 .any (fun w args => (Rows.eidBackSpec.pre enc Tryd.prog Tryd.f4 [] false w args ∧ laidMetH Tryd.prog laidL w) ∧ sizedMet enc Tryd.prog Tryd.f4 (OpenSpec.ofChange Rows.eidBackSpec) false w args) (Rows.eidBackSpec.post enc Tryd.prog Tryd.f4 false true false false) :=
  law_lift_laid (C := Tryd.checked) (tb := 4) (by kernel_rfl) started (by kernel_rfl) Tryd.func4
    (ChangeSpec.witness_shaped (enc := enc) (C := Tryd.checked) (os := os) (X := fun w _ => laidMetH Tryd.prog laidL w) false (World.doorLaid Tryd.prog 400 os) #[.agg #[.int .i64 0, .string ⟨#[]⟩, .int .u64 0, .int .u64 0]] 8 rfl (World.shaped_of_RefB (by kernel_rfl) (by kernel_rfl)) (by kernel_rfl) (by kernel_rfl) (by kernel_rfl) (door_met os _))
    (by kernel_rfl) (by kernel_rfl) rfl (by kernel_rfl) Tryd.underlying4 (fun ds h => by match ds, h with | [_], _ => exact ⟨rfl, rfl, rfl⟩)
    (fun W base args ds ps hL hval hA hlt => walk W base args ds ps (laid_glob hL) hval hA hlt)
theorem over : Rows.eidBackRow.holds Tryd.pinned (OpenSpec.ofChange Rows.eidBackSpec) :=
  OpenClaim.holds_of_wide 4 Tryd.f4 rfl rfl rfl rfl rfl rfl rfl ⟨rfl, rfl, rfl, rfl, rfl⟩ rfl rfl rfl rfl rfl (by kernel_rfl) Tryd.func4 (by kernel_rfl)
    (of_decide_eq_true (by kernel_rfl)) (by unfold Func.isWrapper; rw [if_neg (of_decide_eq_false (by kernel_rfl))]; exact ⟨rfl, rfl⟩)
    (fun os started H enc _ => lifted os started H enc)
theorem proved : Rows.EidBackCardSaid :=
  Claim7.holds_tied_plain_at .later [] [.data, .data, .data, .sentinel, .sentinel] true (true, "08e871a8bd3f91ee1a7ec3f79a3cc1bcdcae0cd351f44e4860eabb233fc97e56") true
    over (fun _ h => by cases h) (by kernel_rfl) (fun _ h => by cases h) eidBack_row_tie rfl ⟨rfl, rfl⟩ (by kernel_rfl) rfl
    (fun f fn hf hfn => by
      obtain rfl : f = 4 := Option.some.inj ((show Tryd.prog.funcNamed "dromond/dromondlaw10.EidBack" = some 4 by kernel_rfl).symm.trans hf) |>.symm
      obtain rfl : fn = Tryd.f4 := (Option.some.inj (Tryd.func4.symm.trans hfn)).symm
      exact ⟨by kernel_rfl, fun j t ht => by
        have hm := Array.mem_of_getElem? ht
        have hall : (Tryd.f4.params.toList.all fun u => !Tryd.prog.wantsStandIn u) = true := by kernel_rfl
        exact (show Tryd.prog.wantsStandIn t = false by simpa using List.all_eq_true.1 hall t (by simpa using hm))⟩)
    (by kernel_rfl)
#print axioms proved
end Go.Proofs.YtlbpodddokhmaaaDoor.EidBack
