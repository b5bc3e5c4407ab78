/-
  The walk of eid.Parse.
  Conditions: at most 1000 bytes; the library's variables hold what the program's text lays.
-/
import Derived.Test.YtlbpodddokhmaaaDoorPrs2
import Derived.Test.YtlbpodddokhmaaaDoorItm10
namespace Go.Proofs.YtlbpodddokhmaaaDoor.Fmt
open Go.ChangeShapes Go.WideShapes Go.ChangeAt Go.RowKit Go.Deep Go.Lib Go.Proofs.YtlbpodddokhmaaaDoor.Itm Go.Proofs.YtlbpodddokhmaaaDoor.Eid
theorem ipn_none {r a b : List UInt8} {k1 k2 kf : Bool} (hc : (kf = true ∧ r = a ++ 46 :: b ∧ (46 : UInt8) ∉ a) ∨ (kf = false ∧ a = r ∧ b = [] ∧ (46 : UInt8) ∉ r)) (h1 : k1 = false → ∀ n, n < W64 → a ≠ decDigits n) (h2 : k2 = false → ∀ n, n < W64 → b ≠ decDigits n) (hk : ¬ (k1 = true ∧ k2 = true)) :
    ∀ m' : Nm, m'.right = true → textB m'.s m'.l m'.n m'.v ≠ ipnP ++ r := by
  refine ipn_text fun n v hn hv he => ?_
  have hW : W64 = 18446744073709551616 := rfl
  rcases hc with ⟨_, h, hna⟩ | ⟨_, _, _, h⟩
  · rw [h] at he
    obtain ⟨e1, e2⟩ := split_uniq he hna (dec_no_dot _)
    refine hk ⟨?_, ?_⟩
    · cases hq : k1 with
      | true => rfl
      | false => exact absurd e1 (h1 hq n (by omega))
    · cases hq : k2 with
      | true => rfl
      | false => exact absurd e2 (h2 hq v (by omega))
  · rw [he] at h
    exact h (by simp)
theorem pre_drop {p s : List UInt8} (h : pre p s = true) : s = p ++ s.drop p.length := by
  obtain ⟨r, rfl⟩ := pre_iff.1 h
  simp
set_option maxHeartbeats 1600000 in
set_option maxRecDepth 100000 in
theorem Parse_dtn (s : List UInt8) (hl : s.length ≤ 1000) (w : World) (h : pre dtnP s = true) : Calls Tryd.prog 6 #[.string (B s)] w fun e w' => ParseR s e ∧ Below w.heap.size w w' := by
  obtain ⟨l, hl4⟩ : ∃ l, s.drop 4 = l := ⟨_, rfl⟩
  have hsl : s = dtnP ++ l := by rw [← hl4]; exact pre_drop h
  have hll : l.length ≤ maxLen := Nat.le_trans (by rw [← hl4, List.length_drop]; omega) (show 1000 ≤ maxLen by decide)
  have HG : Hid (rightB 1 l 0 0 = true → ParseR s (.returned (.tuple #[nmV ⟨1, l, 0, 0⟩, .int .i64 (0 : Nat)]))) := Lib.hid fun hr => ⟨⟨1, l, 0, 0⟩, 0, rfl, .inl ⟨rfl, hr, by rw [hsl]; exact textB_one l 0 0⟩⟩
  have HB : Hid (rightB 1 l 0 0 = false → ParseR s (.returned (.tuple #[nmV Nm.zero, .int .i64 (2 : Nat)]))) := Lib.hid fun hr => ⟨Nm.zero, 2, rfl, .inr ⟨rfl, rfl, dtn_text h (by rw [hl4]; exact hr)⟩⟩
  have HRT := Lib.hid fun W => Right_any 1 l 0 0 W hll
  have HC := Lib.hid (fun W => CutPrefix_any s dtnP W)
  have hcp : cutp dtnP s = l := by rw [cutp_true h]; exact hl4
  rw [h, hcp] at HC
  clear hsl hll h hcp hl4 hl
  go_enter Tryd.func6, Tryd.ntmps6
  go_wp2_with fail
  obtain ⟨w0, hw0⟩ : ∃ w0, (w.alloc (.cells #[.int .i64 0, .string ⟨#[]⟩, .int .u64 0, .int .u64 0] 25)).alloc (.cells #[.int .i64 0, .string ⟨#[]⟩, .int .u64 0, .int .u64 0] 25) = w0 := ⟨_, rfl⟩
  have gS : w0.heap.size = w.heap.size + 1 + 1 := by rw [← hw0]; show ((w.heap.push _).push _).size = _; simp
  have gb : Below w.heap.size w w0 := by rw [← hw0]; exact ((Below.refl _ _).alloc (Nat.le_refl _) _).alloc (by show w.heap.size ≤ (w.heap.push _).size; simp) _
  have q1 : w0.heap[w.heap.size]? = some (.cells #[.int .i64 0, .string ⟨#[]⟩, .int .u64 0, .int .u64 0] 25 (0, 0)) := by rw [← hw0]; exact heap_under (heap_alloc_last w _)
  have q2 : w0.heap[w.heap.size + 1]? = some (.cells #[.int .i64 0, .string ⟨#[]⟩, .int .u64 0, .int .u64 0] 25 (0, 0)) := by rw [← hw0]; exact heap_at (by show (w.heap.push _).size = _; simp)
  rw [hw0]
  clear hw0
  have QR := Lib.hid q1
  have QE := Lib.hid q2
  have GB := Lib.hid gb
  clear q1 q2 gb
  have hzr : w.heap.size < w0.heap.size := by omega
  have hze : w.heap.size + 1 < w0.heap.size := by omega
  refine (HC.out _).mono ?_
  rintro e wc ⟨rfl, rfl⟩
  go_wp2_with (with_reducible refine stop_store 25 rfl ?_)
  refine store_row 25 (.tmp 4) (.tmp 23) rfl rfl rfl (w.heap.size + 1) #[.int .i64 1, .string (B l), .int .u64 0, .int .u64 0] rfl rfl 25 _ QE.out infoE rfl (by simp [Value.oneCell']) ?_
  have QE2 := Lib.hid (setRow_heap _ _ _ #[.int .i64 1, .string (B l), .int .u64 0, .int .u64 0] _ _ QE.out)
  have QR2 := Lib.hid ((setRow_other w0 (w.heap.size + 1) w.heap.size #[.int .i64 1, .string (B l), .int .u64 0, .int .u64 0] (by omega)).trans QR.out)
  have GB2 := Lib.hid (setRow_below #[.int .i64 1, .string (B l), .int .u64 0, .int .u64 0] (show w.heap.size ≤ w.heap.size + 1 by omega) GB.out)
  have hsz : (w0.setRow (w.heap.size + 1) #[.int .i64 1, .string (B l), .int .u64 0, .int .u64 0]).heap.size = w0.heap.size := setRow_size _ _ _
  rw [← hsz] at hzr hze
  generalize w0.setRow (w.heap.size + 1) #[.int .i64 1, .string (B l), .int .u64 0, .int .u64 0] = w1 at *
  go_wp2_with (with_reducible refine stop_load 25 rfl ?_)
  refine load_mid 25 (.tmp 4) rfl rfl (some 53) rfl (w.heap.size + 1) 0 rfl #[.int .i64 1, .string (B l), .int .u64 0, .int .u64 0] (rangeAt_row QE2.out) _ Tryd.underlying25 rfl infoE ?_
  go_wp2_with fail
  refine (HRT.out _).mono ?_
  rintro e wz ⟨rfl, hbz⟩
  have QR9 := Lib.hid (heap_below hbz hzr QR2.out)
  have QE9 := Lib.hid (heap_below hbz hze QE2.out)
  have B9 := Lib.hid (GB2.out.trans (hbz.mono GB2.out.size))
  clear hbz
  generalize hrk : rightB 1 l 0 0 = rk at *
  cases rk with
  | true =>
    have HP := Lib.hid (HG.out (by first | exact hrk | rfl))
    clear hrk
    go_wp2_with (with_reducible refine stop_load 25 rfl ?_)
    refine load_mid 25 (.tmp 4) rfl rfl (some 57) rfl (w.heap.size + 1) 0 rfl #[.int .i64 1, .string (B l), .int .u64 0, .int .u64 0] (rangeAt_row QE9.out) _ Tryd.underlying25 rfl infoE ?_
    go_wp2_with (with_reducible refine stop_store 25 rfl ?_)
    refine store_row 25 (.tmp 2) (.tmp 57) rfl rfl rfl w.heap.size #[.int .i64 1, .string (B l), .int .u64 0, .int .u64 0] rfl rfl 25 _ QR9.out infoE rfl (by simp [Value.oneCell']) ?_
    go_wp2
    exact post_row_tmp w.heap.size Tryd.results6 25 _ _ (.int .i64 0) rfl rfl (setRow_heap _ _ _ _ _ _ QR9.out) Tryd.underlying25 rfl infoE rfl ⟨HP.out, setRow_below _ (Nat.le_refl _) B9.out⟩
  | false =>
    have HP := Lib.hid (HB.out (by first | exact hrk | rfl))
    clear hrk
    go_wp2_with (with_reducible refine stop_store 25 rfl ?_)
    refine store_row 25 (.tmp 2) (.tmp 56) rfl rfl rfl w.heap.size #[.int .i64 0, .string ⟨#[]⟩, .int .u64 0, .int .u64 0] rfl rfl 25 _ QR9.out infoE rfl (by simp [Value.oneCell']) ?_
    go_wp2
    exact post_row_tmp w.heap.size Tryd.results6 25 _ _ (.int .i64 2) rfl rfl (setRow_heap _ _ _ _ _ _ QR9.out) Tryd.underlying25 rfl infoE rfl ⟨HP.out, setRow_below _ (Nat.le_refl _) B9.out⟩
set_option maxHeartbeats 1600000 in
set_option maxRecDepth 100000 in
theorem Parse_none (s : List UInt8) (w : World) (h1 : pre dtnP s = false) (h2 : pre ipnP s = false) : Calls Tryd.prog 6 #[.string (B s)] w fun e w' => ParseR s e ∧ Below w.heap.size w w' := by
  have HG : Hid (rightB 0 [] 0 0 = true → ParseR s (.returned (.tuple #[nmV Nm.zero, .int .i64 (0 : Nat)]))) := Lib.hid fun hr => by cases hr
  have HB : Hid (rightB 0 [] 0 0 = false → ParseR s (.returned (.tuple #[nmV Nm.zero, .int .i64 (2 : Nat)]))) := Lib.hid fun _ => ⟨Nm.zero, 2, rfl, .inr ⟨rfl, rfl, no_text h1 h2⟩⟩
  have HRT := Lib.hid fun W => Right_any 0 [] 0 0 W (by decide)
  have HC := Lib.hid (fun W => CutPrefix_any s dtnP W)
  have HD := Lib.hid (fun W => CutPrefix_any s ipnP W)
  rw [h1, cutp_false h1] at HC
  rw [h2, cutp_false h2] at HD
  clear h1 h2
  go_enter Tryd.func6, Tryd.ntmps6
  go_wp2_with fail
  obtain ⟨w0, hw0⟩ : ∃ w0, (w.alloc (.cells #[.int .i64 0, .string ⟨#[]⟩, .int .u64 0, .int .u64 0] 25)).alloc (.cells #[.int .i64 0, .string ⟨#[]⟩, .int .u64 0, .int .u64 0] 25) = w0 := ⟨_, rfl⟩
  have gS : w0.heap.size = w.heap.size + 1 + 1 := by rw [← hw0]; show ((w.heap.push _).push _).size = _; simp
  have gb : Below w.heap.size w w0 := by rw [← hw0]; exact ((Below.refl _ _).alloc (Nat.le_refl _) _).alloc (by show w.heap.size ≤ (w.heap.push _).size; simp) _
  have q1 : w0.heap[w.heap.size]? = some (.cells #[.int .i64 0, .string ⟨#[]⟩, .int .u64 0, .int .u64 0] 25 (0, 0)) := by rw [← hw0]; exact heap_under (heap_alloc_last w _)
  have q2 : w0.heap[w.heap.size + 1]? = some (.cells #[.int .i64 0, .string ⟨#[]⟩, .int .u64 0, .int .u64 0] 25 (0, 0)) := by rw [← hw0]; exact heap_at (by show (w.heap.push _).size = _; simp)
  rw [hw0]
  clear hw0
  have QR := Lib.hid q1
  have QE := Lib.hid q2
  have GB := Lib.hid gb
  clear q1 q2 gb
  have hzr : w.heap.size < w0.heap.size := by omega
  have hze : w.heap.size + 1 < w0.heap.size := by omega
  refine (HC.out _).mono ?_
  rintro e wc ⟨rfl, rfl⟩
  go_wp2_with fail
  refine (HD.out _).mono ?_
  rintro e wc ⟨rfl, rfl⟩
  go_wp2_with (with_reducible refine stop_load 25 rfl ?_)
  refine load_mid 25 (.tmp 4) rfl rfl (some 53) rfl (w.heap.size + 1) 0 rfl #[.int .i64 0, .string ⟨#[]⟩, .int .u64 0, .int .u64 0] (rangeAt_row QE.out) _ Tryd.underlying25 rfl infoE ?_
  go_wp2_with fail
  refine (HRT.out _).mono ?_
  rintro e wz ⟨rfl, hbz⟩
  have QR9 := Lib.hid (heap_below hbz hzr QR.out)
  have QE9 := Lib.hid (heap_below hbz hze QE.out)
  have B9 := Lib.hid (GB.out.trans (hbz.mono GB.out.size))
  clear hbz
  generalize hrk : rightB 0 [] 0 0 = rk at *
  cases rk with
  | true =>
    have HP := Lib.hid (HG.out (by first | exact hrk | rfl))
    clear hrk
    go_wp2_with (with_reducible refine stop_load 25 rfl ?_)
    refine load_mid 25 (.tmp 4) rfl rfl (some 57) rfl (w.heap.size + 1) 0 rfl #[.int .i64 0, .string ⟨#[]⟩, .int .u64 0, .int .u64 0] (rangeAt_row QE9.out) _ Tryd.underlying25 rfl infoE ?_
    go_wp2_with (with_reducible refine stop_store 25 rfl ?_)
    refine store_row 25 (.tmp 2) (.tmp 57) rfl rfl rfl w.heap.size #[.int .i64 0, .string ⟨#[]⟩, .int .u64 0, .int .u64 0] rfl rfl 25 _ QR9.out infoE rfl (by simp [Value.oneCell']) ?_
    go_wp2
    exact post_row_tmp w.heap.size Tryd.results6 25 _ _ (.int .i64 0) rfl rfl (setRow_heap _ _ _ _ _ _ QR9.out) Tryd.underlying25 rfl infoE rfl ⟨HP.out, setRow_below _ (Nat.le_refl _) B9.out⟩
  | false =>
    have HP := Lib.hid (HB.out (by first | exact hrk | rfl))
    clear hrk
    go_wp2_with (with_reducible refine stop_store 25 rfl ?_)
    refine store_row 25 (.tmp 2) (.tmp 56) rfl rfl rfl w.heap.size #[.int .i64 0, .string ⟨#[]⟩, .int .u64 0, .int .u64 0] rfl rfl 25 _ QR9.out infoE rfl (by simp [Value.oneCell']) ?_
    go_wp2
    exact post_row_tmp w.heap.size Tryd.results6 25 _ _ (.int .i64 2) rfl rfl (setRow_heap _ _ _ _ _ _ QR9.out) Tryd.underlying25 rfl infoE rfl ⟨HP.out, setRow_below _ (Nat.le_refl _) B9.out⟩
set_option maxHeartbeats 1600000 in
set_option maxRecDepth 100000 in
theorem Parse_ipn (s : List UInt8) (hl : s.length ≤ 1000) (w : World) (hg : Glob w) (h1 : pre dtnP s = false) (h2 : pre ipnP s = true) : Calls Tryd.prog 6 #[.string (B s)] w fun e w' => ParseR s e ∧ Below w.heap.size w w' := by
  obtain ⟨r, hr4⟩ : ∃ r, s.drop 4 = r := ⟨_, rfl⟩
  have hsr : s = ipnP ++ r := by rw [← hr4]; exact pre_drop h2
  have hrl : r.length ≤ 1000 := by rw [← hr4, List.length_drop]; omega
  have HC := Lib.hid (fun W => CutPrefix_any s dtnP W)
  have HD := Lib.hid (fun W => CutPrefix_any s ipnP W)
  have hcp : cutp ipnP s = r := by rw [cutp_true h2]; exact hr4
  rw [h1, cutp_false h1] at HC
  rw [h2, hcp] at HD
  have HGL := Lib.hid hg
  have HSR := Lib.hid hsr
  have HCUT := Lib.hid fun W => Cut_any r hrl W
  clear hg h1 h2 hcp hr4 hsr
  go_enter Tryd.func6, Tryd.ntmps6
  go_wp2_with fail
  obtain ⟨w0, hw0⟩ : ∃ w0, (w.alloc (.cells #[.int .i64 0, .string ⟨#[]⟩, .int .u64 0, .int .u64 0] 25)).alloc (.cells #[.int .i64 0, .string ⟨#[]⟩, .int .u64 0, .int .u64 0] 25) = w0 := ⟨_, rfl⟩
  have gS : w0.heap.size = w.heap.size + 1 + 1 := by rw [← hw0]; show ((w.heap.push _).push _).size = _; simp
  have gb : Below w.heap.size w w0 := by rw [← hw0]; exact ((Below.refl _ _).alloc (Nat.le_refl _) _).alloc (by show w.heap.size ≤ (w.heap.push _).size; simp) _
  have q1 : w0.heap[w.heap.size]? = some (.cells #[.int .i64 0, .string ⟨#[]⟩, .int .u64 0, .int .u64 0] 25 (0, 0)) := by rw [← hw0]; exact heap_under (heap_alloc_last w _)
  have q2 : w0.heap[w.heap.size + 1]? = some (.cells #[.int .i64 0, .string ⟨#[]⟩, .int .u64 0, .int .u64 0] 25 (0, 0)) := by rw [← hw0]; exact heap_at (by show (w.heap.push _).size = _; simp)
  rw [hw0]
  clear hw0
  have QR := Lib.hid q1
  have QE := Lib.hid q2
  have GB := Lib.hid gb
  clear q1 q2 gb
  have hzr : w.heap.size < w0.heap.size := by omega
  have hze : w.heap.size + 1 < w0.heap.size := by omega
  refine (HC.out _).mono ?_
  rintro e wc ⟨rfl, rfl⟩
  go_wp2_with fail
  refine (HD.out _).mono ?_
  rintro e wc ⟨rfl, rfl⟩
  go_wp2_with fail
  refine (HCUT.out _).mono ?_
  rintro e w1 ⟨⟨a, b, kf, rfl, hal, hbl, hcut⟩, hb⟩
  have QR1 := Lib.hid (heap_below hb hzr QR.out)
  have QE1 := Lib.hid (heap_below hb hze QE.out)
  have GB1 := Lib.hid (GB.out.trans (hb.mono GB.out.size))
  replace hzr : w.heap.size < w1.heap.size := by have := hb.size; omega
  replace hze : w.heap.size + 1 < w1.heap.size := by have := hb.size; omega
  have HCU := Lib.hid hcut
  have HN1 := Lib.hid fun (W : World) (hW : Glob W) => number_any a (by omega) W hW
  have HN2 := Lib.hid fun (W : World) (hW : Glob W) => number_any b (by omega) W hW
  clear hb hcut QR QE GB
  go_wp2_with fail
  refine (HN1.out _ (HGL.out.below GB1.out)).mono ?_
  rintro e w2 ⟨⟨n1, k1, rfl, hn1, ht1, hf1⟩, hb⟩
  have QR2 := Lib.hid (heap_below hb hzr QR1.out)
  have QE2 := Lib.hid (heap_below hb hze QE1.out)
  have GB2 := Lib.hid (GB1.out.trans (hb.mono GB1.out.size))
  replace hzr : w.heap.size < w2.heap.size := by have := hb.size; omega
  replace hze : w.heap.size + 1 < w2.heap.size := by have := hb.size; omega
  have HA1 := Lib.hid (show n1 < W64 ∧ (k1 = true → _) ∧ (k1 = false → _) from ⟨hn1, ht1, hf1⟩)
  clear hb QR1 QE1 GB1 hn1 ht1 hf1
  go_wp2_with fail
  refine (HN2.out _ (HGL.out.below GB2.out)).mono ?_
  rintro e w3 ⟨⟨n2, k2, rfl, hn2, ht2, hf2⟩, hb⟩
  have QR3 := Lib.hid (heap_below hb hzr QR2.out)
  have QE3 := Lib.hid (heap_below hb hze QE2.out)
  have GB3 := Lib.hid (GB2.out.trans (hb.mono GB2.out.size))
  replace hzr : w.heap.size < w3.heap.size := by have := hb.size; omega
  replace hze : w.heap.size + 1 < w3.heap.size := by have := hb.size; omega
  have HA2 := Lib.hid (show n2 < W64 ∧ (k2 = true → _) ∧ (k2 = false → _) from ⟨hn2, ht2, hf2⟩)
  clear hb QR2 QE2 GB2 hn2 ht2 hf2
  by_cases hk : k1 = true ∧ k2 = true
  · obtain ⟨rfl, rfl⟩ := hk
    have ha := HA1.out.2.1 rfl
    have hb := HA2.out.2.1 rfl
    have hn1 := HA1.out.1
    have hn2 := HA2.out.1
    have hre : r = decDigits n1 ++ 46 :: decDigits n2 := by
      rcases HCU.out with ⟨_, h, _⟩ | ⟨_, _, h, _⟩
      · rw [h, ha, hb]
      · rw [hb] at h; exact absurd h (dec_ne n2)
    have HG : Hid (rightB 2 [] n1 n2 = true → ParseR s (.returned (.tuple #[nmV ⟨2, [], n1, n2⟩, .int .i64 (0 : Nat)]))) := Lib.hid fun hr => ⟨⟨2, [], n1, n2⟩, 0, rfl, .inl ⟨rfl, hr, by rw [HSR.out, hre]; exact textB_two [] n1 n2⟩⟩
    have HB : Hid (rightB 2 [] n1 n2 = false → ParseR s (.returned (.tuple #[nmV Nm.zero, .int .i64 (2 : Nat)]))) := Lib.hid fun hr => ⟨Nm.zero, 2, rfl, .inr ⟨rfl, rfl, by rw [HSR.out]; refine ipn_text fun n v hn hv he => ?_; rw [hre] at he; obtain ⟨e1, e2⟩ := split_uniq he (dec_no_dot _) (dec_no_dot _); have hW : W64 = 18446744073709551616 := rfl; have f1 := dec_inj hn1 (by omega) e1; have f2 := dec_inj hn2 (by omega) e2; subst f1 f2; have := right_two hn hv; unfold Nm.right at this; simp only at this; have h9 : rightB 2 [] n1 n2 = true := this; rw [hr] at h9; cases h9⟩⟩
    have HRT := Lib.hid fun W => Right_any 2 [] n1 n2 W (by decide)
    clear ha hb hn1 hn2 hre HCU HA1 HA2 HSR
    go_wp2_with (with_reducible refine stop_store 25 rfl ?_)
    refine store_row 25 (.tmp 4) (.tmp 52) rfl rfl rfl (w.heap.size + 1) #[.int .i64 2, .string (B []), .int .u64 n1, .int .u64 n2] rfl rfl 25 _ QE3.out infoE rfl (by simp [Value.oneCell']) ?_
    have QE4 := Lib.hid (setRow_heap _ _ _ #[.int .i64 2, .string (B []), .int .u64 n1, .int .u64 n2] _ _ QE3.out)
    have QR4 := Lib.hid ((setRow_other w3 (w.heap.size + 1) w.heap.size #[.int .i64 2, .string (B []), .int .u64 n1, .int .u64 n2] (by omega)).trans QR3.out)
    have GB4 := Lib.hid (setRow_below #[.int .i64 2, .string (B []), .int .u64 n1, .int .u64 n2] (show w.heap.size ≤ w.heap.size + 1 by omega) GB3.out)
    have hsz : (w3.setRow (w.heap.size + 1) #[.int .i64 2, .string (B []), .int .u64 n1, .int .u64 n2]).heap.size = w3.heap.size := setRow_size _ _ _
    rw [← hsz] at hzr hze
    generalize w3.setRow (w.heap.size + 1) #[.int .i64 2, .string (B []), .int .u64 n1, .int .u64 n2] = w4 at *
    go_wp2_with (with_reducible refine stop_load 25 rfl ?_)
    refine load_mid 25 (.tmp 4) rfl rfl (some 53) rfl (w.heap.size + 1) 0 rfl #[.int .i64 2, .string (B []), .int .u64 n1, .int .u64 n2] (rangeAt_row QE4.out) _ Tryd.underlying25 rfl infoE ?_
    go_wp2_with fail
    refine (HRT.out _).mono ?_
    rintro e wz ⟨rfl, hbz⟩
    have QR9 := Lib.hid (heap_below hbz hzr QR4.out)
    have QE9 := Lib.hid (heap_below hbz hze QE4.out)
    have B9 := Lib.hid (GB4.out.trans (hbz.mono GB4.out.size))
    clear hbz
    generalize hrk : rightB 2 [] n1 n2 = rk at *
    cases rk with
    | true =>
      have HP := Lib.hid (HG.out (by first | exact hrk | rfl))
      clear hrk
      go_wp2_with (with_reducible refine stop_load 25 rfl ?_)
      refine load_mid 25 (.tmp 4) rfl rfl (some 57) rfl (w.heap.size + 1) 0 rfl #[.int .i64 2, .string (B []), .int .u64 n1, .int .u64 n2] (rangeAt_row QE9.out) _ Tryd.underlying25 rfl infoE ?_
      go_wp2_with (with_reducible refine stop_store 25 rfl ?_)
      refine store_row 25 (.tmp 2) (.tmp 57) rfl rfl rfl w.heap.size #[.int .i64 2, .string (B []), .int .u64 n1, .int .u64 n2] rfl rfl 25 _ QR9.out infoE rfl (by simp [Value.oneCell']) ?_
      go_wp2
      exact post_row_tmp w.heap.size Tryd.results6 25 _ _ (.int .i64 0) rfl rfl (setRow_heap _ _ _ _ _ _ QR9.out) Tryd.underlying25 rfl infoE rfl ⟨HP.out, setRow_below _ (Nat.le_refl _) B9.out⟩
    | false =>
      have HP := Lib.hid (HB.out (by first | exact hrk | rfl))
      clear hrk
      go_wp2_with (with_reducible refine stop_store 25 rfl ?_)
      refine store_row 25 (.tmp 2) (.tmp 56) rfl rfl rfl w.heap.size #[.int .i64 0, .string ⟨#[]⟩, .int .u64 0, .int .u64 0] rfl rfl 25 _ QR9.out infoE rfl (by simp [Value.oneCell']) ?_
      go_wp2
      exact post_row_tmp w.heap.size Tryd.results6 25 _ _ (.int .i64 2) rfl rfl (setRow_heap _ _ _ _ _ _ QR9.out) Tryd.underlying25 rfl infoE rfl ⟨HP.out, setRow_below _ (Nat.le_refl _) B9.out⟩
  · have HG : Hid (rightB 0 [] 0 0 = true → ParseR s (.returned (.tuple #[nmV Nm.zero, .int .i64 (0 : Nat)]))) := Lib.hid fun hr => by cases hr
    have HB : Hid (rightB 0 [] 0 0 = false → ParseR s (.returned (.tuple #[nmV Nm.zero, .int .i64 (2 : Nat)]))) := Lib.hid fun _ => ⟨Nm.zero, 2, rfl, .inr ⟨rfl, rfl, by rw [HSR.out]; exact ipn_none HCU.out HA1.out.2.2 HA2.out.2.2 hk⟩⟩
    have HRT := Lib.hid fun W => Right_any 0 [] 0 0 W (by decide)
    have hkk : (k1 = false ∨ k2 = false) := by cases k1 <;> cases k2 <;> simp_all
    clear hk HCU HA1 HA2 HSR
    rcases hkk with rfl | rfl
    · skip
      go_wp2_with (with_reducible refine stop_load 25 rfl ?_)
      refine load_mid 25 (.tmp 4) rfl rfl (some 53) rfl (w.heap.size + 1) 0 rfl #[.int .i64 0, .string ⟨#[]⟩, .int .u64 0, .int .u64 0] (rangeAt_row QE3.out) _ Tryd.underlying25 rfl infoE ?_
      go_wp2_with fail
      refine (HRT.out _).mono ?_
      rintro e wz ⟨rfl, hbz⟩
      have QR9 := Lib.hid (heap_below hbz hzr QR3.out)
      have QE9 := Lib.hid (heap_below hbz hze QE3.out)
      have B9 := Lib.hid (GB3.out.trans (hbz.mono GB3.out.size))
      clear hbz
      generalize hrk : rightB 0 [] 0 0 = rk at *
      cases rk with
      | true =>
        have HP := Lib.hid (HG.out (by first | exact hrk | rfl))
        clear hrk
        go_wp2_with (with_reducible refine stop_load 25 rfl ?_)
        refine load_mid 25 (.tmp 4) rfl rfl (some 57) rfl (w.heap.size + 1) 0 rfl #[.int .i64 0, .string ⟨#[]⟩, .int .u64 0, .int .u64 0] (rangeAt_row QE9.out) _ Tryd.underlying25 rfl infoE ?_
        go_wp2_with (with_reducible refine stop_store 25 rfl ?_)
        refine store_row 25 (.tmp 2) (.tmp 57) rfl rfl rfl w.heap.size #[.int .i64 0, .string ⟨#[]⟩, .int .u64 0, .int .u64 0] rfl rfl 25 _ QR9.out infoE rfl (by simp [Value.oneCell']) ?_
        go_wp2
        exact post_row_tmp w.heap.size Tryd.results6 25 _ _ (.int .i64 0) rfl rfl (setRow_heap _ _ _ _ _ _ QR9.out) Tryd.underlying25 rfl infoE rfl ⟨HP.out, setRow_below _ (Nat.le_refl _) B9.out⟩
      | false =>
        have HP := Lib.hid (HB.out (by first | exact hrk | rfl))
        clear hrk
        go_wp2_with (with_reducible refine stop_store 25 rfl ?_)
        refine store_row 25 (.tmp 2) (.tmp 56) rfl rfl rfl w.heap.size #[.int .i64 0, .string ⟨#[]⟩, .int .u64 0, .int .u64 0] rfl rfl 25 _ QR9.out infoE rfl (by simp [Value.oneCell']) ?_
        go_wp2
        exact post_row_tmp w.heap.size Tryd.results6 25 _ _ (.int .i64 2) rfl rfl (setRow_heap _ _ _ _ _ _ QR9.out) Tryd.underlying25 rfl infoE rfl ⟨HP.out, setRow_below _ (Nat.le_refl _) B9.out⟩
    · cases k1
      all_goals
        go_wp2_with (with_reducible refine stop_load 25 rfl ?_)
        refine load_mid 25 (.tmp 4) rfl rfl (some 53) rfl (w.heap.size + 1) 0 rfl #[.int .i64 0, .string ⟨#[]⟩, .int .u64 0, .int .u64 0] (rangeAt_row QE3.out) _ Tryd.underlying25 rfl infoE ?_
        go_wp2_with fail
        refine (HRT.out _).mono ?_
        rintro e wz ⟨rfl, hbz⟩
        have QR9 := Lib.hid (heap_below hbz hzr QR3.out)
        have QE9 := Lib.hid (heap_below hbz hze QE3.out)
        have B9 := Lib.hid (GB3.out.trans (hbz.mono GB3.out.size))
        clear hbz
        generalize hrk : rightB 0 [] 0 0 = rk at *
        cases rk with
        | true =>
          have HP := Lib.hid (HG.out (by first | exact hrk | rfl))
          clear hrk
          go_wp2_with (with_reducible refine stop_load 25 rfl ?_)
          refine load_mid 25 (.tmp 4) rfl rfl (some 57) rfl (w.heap.size + 1) 0 rfl #[.int .i64 0, .string ⟨#[]⟩, .int .u64 0, .int .u64 0] (rangeAt_row QE9.out) _ Tryd.underlying25 rfl infoE ?_
          go_wp2_with (with_reducible refine stop_store 25 rfl ?_)
          refine store_row 25 (.tmp 2) (.tmp 57) rfl rfl rfl w.heap.size #[.int .i64 0, .string ⟨#[]⟩, .int .u64 0, .int .u64 0] rfl rfl 25 _ QR9.out infoE rfl (by simp [Value.oneCell']) ?_
          go_wp2
          exact post_row_tmp w.heap.size Tryd.results6 25 _ _ (.int .i64 0) rfl rfl (setRow_heap _ _ _ _ _ _ QR9.out) Tryd.underlying25 rfl infoE rfl ⟨HP.out, setRow_below _ (Nat.le_refl _) B9.out⟩
        | false =>
          have HP := Lib.hid (HB.out (by first | exact hrk | rfl))
          clear hrk
          go_wp2_with (with_reducible refine stop_store 25 rfl ?_)
          refine store_row 25 (.tmp 2) (.tmp 56) rfl rfl rfl w.heap.size #[.int .i64 0, .string ⟨#[]⟩, .int .u64 0, .int .u64 0] rfl rfl 25 _ QR9.out infoE rfl (by simp [Value.oneCell']) ?_
          go_wp2
          exact post_row_tmp w.heap.size Tryd.results6 25 _ _ (.int .i64 2) rfl rfl (setRow_heap _ _ _ _ _ _ QR9.out) Tryd.underlying25 rfl infoE rfl ⟨HP.out, setRow_below _ (Nat.le_refl _) B9.out⟩
theorem Parse_any (s : List UInt8) (hl : s.length ≤ 1000) (w : World) (hg : Glob w) : Calls Tryd.prog 6 #[.string (B s)] w fun e w' => ParseR s e ∧ Below w.heap.size w w' := by
  cases h1 : pre dtnP s with
  | true => exact Parse_dtn s hl w h1
  | false =>
    cases h2 : pre ipnP s with
    | true => exact Parse_ipn s hl w hg h1 h2
    | false => exact Parse_none s w h1 h2
end Go.Proofs.YtlbpodddokhmaaaDoor.Fmt
