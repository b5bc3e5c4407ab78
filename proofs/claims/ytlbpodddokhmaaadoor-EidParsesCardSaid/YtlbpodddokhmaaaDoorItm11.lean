/-
  The walk of eid.Of.
  Conditions: none.
-/
import Derived.Test.YtlbpodddokhmaaaDoorItm10
namespace Go.Proofs.YtlbpodddokhmaaaDoor.Itm
open Go.ChangeShapes Go.WideShapes Go.ChangeAt Go.RowKit Go.Deep Go.Proofs.YtlbpodddokhmaaaDoor.Eid
def Nm.right (m : Nm) : Bool := rightB m.s m.l m.n m.v
def Nm.tree (m : Nm) : Tr := nameT m.s m.l m.n m.v
/-- Whose item is a tree? -/
def OfP (t : Tr) (m : Nm) : Prop := m.right = true ∧ rightT 8 t = true ∧ t = m.tree
/-- What Of answers. -/
def OfR (t : Tr) (e : Ending) : Prop := ∃ (m : Nm) (k : Nat), e = .returned (.tuple #[nmV m, .int .i64 k]) ∧ ((k = 0 ∧ OfP t m ∧ m = readT t) ∨ (k = 2 ∧ m = Nm.zero ∧ ¬ OfP t (readT t)))
theorem readT_bound {w : World} {t : Tr} {cs : List Value} (h : TAt w t cs) : (readT t).l.length ≤ R47 ∧ (readT t).n < W64 ∧ (readT t).v < W64 := by
  have hz : Nm.zero.l.length ≤ R47 ∧ Nm.zero.n < W64 ∧ Nm.zero.v < W64 := by decide
  have hn : Nm.none.l.length ≤ R47 ∧ Nm.none.n < W64 ∧ Nm.none.v < W64 := by decide
  unfold readT
  split
  · split
    · next x y hl =>
      obtain ⟨a, c, C, _, _, _, _, hel⟩ := box_item h
      rw [hl] at hel
      obtain ⟨_, _, _, _, _, hy, _⟩ := hel 1 y rfl
      obtain ⟨_, _, C1, _, _, hys, _, hel1⟩ := box_item hy
      have ht : (textOf x y).l.length ≤ R47 ∧ (textOf x y).n < W64 ∧ (textOf x y).v < W64 := by
        unfold textOf
        split
        · exact ⟨hys, (by decide : 0 < W64), (by decide : 0 < W64)⟩
        · exact hn
      split
      · unfold readY
        split
        · next p q hpq =>
          rw [hpq] at hel1
          obtain ⟨_, _, _, _, _, hp, _⟩ := hel1 0 p rfl
          obtain ⟨_, _, _, _, _, hq, _⟩ := hel1 1 q rfl
          obtain ⟨_, _, _, _, hpn, _⟩ := box_item hp
          obtain ⟨_, _, _, _, hqn, _⟩ := box_item hq
          split
          · exact ⟨Nat.zero_le _, hpn, hqn⟩
          · exact ht
        · exact ht
      · exact hz
    · exact hz
  · exact hz
theorem R47_max : R47 ≤ maxLen := by decide
set_option maxHeartbeats 1600000 in
set_option maxRecDepth 100000 in
theorem Of_no (t : Tr) (cs : List Value) (w : World) (h : TAt w t cs) (hr : (readT t).right = false) : Calls Tryd.prog 11 #[.agg cs.toArray] w fun e w' => OfR t e ∧ Below w.heap.size w w' := by
  have HP : Hid (OfR t (.returned (.tuple #[nmV Nm.zero, .int .i64 (2 : Nat)]))) := Lib.hid ⟨_, _, rfl, .inr ⟨rfl, rfl, fun ⟨h1, _⟩ => by rw [hr] at h1; cases h1⟩⟩
  obtain ⟨hb1, hb2, hb3⟩ := readT_bound h
  have HR := Lib.hid fun (W : World) (hb : Below w.heap.size w W) => read_any t cs W (h.keep hb (Nat.le_refl _))
  obtain ⟨m, hm⟩ : ∃ m, readT t = m := ⟨_, rfl⟩
  rw [hm] at HR hr hb1 hb2 hb3
  have HI := Lib.hid fun (W : World) => Item_no m.s m.l m.n m.v W (Nat.le_trans hb1 R47_max) hr
  have h5 : cs.toArray.size = 5 := by obtain ⟨_, _, _, he, _⟩ := h.form; rw [he]; rfl
  have H1 := Lib.hid (item_oneCell h)
  generalize cs.toArray = X at *
  have H5 := Lib.hid h5
  have HNV : Hid (nmV m = .agg #[.int .i64 m.s, .string (B m.l), .int .u64 m.n, .int .u64 m.v]) := Lib.hid rfl
  rw [HNV.out] at HR
  clear hm hb1 hb2 hb3 h hr h5
  generalize m.s = ms at *
  generalize m.l = ml at *
  generalize m.n = mn at *
  generalize m.v = mv at *
  go_enter Tryd.func11, Tryd.ntmps11
  go_wp2_with (with_reducible refine stop_load 33 rfl ?_)
  obtain ⟨w1, hw1⟩ : ∃ w1, (w.alloc (.cells X 33)).alloc (.cells #[.int .i64 0, .string ⟨#[]⟩, .int .u64 0, .int .u64 0] 25) = w1 := ⟨_, rfl⟩
  have gS : w1.heap.size = w.heap.size + 1 + 1 := by rw [← hw1]; show ((w.heap.push _).push _).size = _; simp
  have gb : Below w.heap.size w w1 := by rw [← hw1]; exact ((Below.refl _ _).alloc (Nat.le_refl _) _).alloc (by show w.heap.size ≤ (w.heap.push _).size; simp) _
  have q0 : w1.heap[w.heap.size]? = some (.cells X 33 (0, 0)) := by rw [← hw1]; exact heap_under (heap_alloc_last w _)
  have q1 : w1.heap[w.heap.size + 1]? = some (.cells #[.int .i64 0, .string ⟨#[]⟩, .int .u64 0, .int .u64 0] 25 (0, 0)) := by rw [← hw1]; exact heap_at (by show (w.heap.push _).size = _; simp)
  rw [hw1]
  clear hw1
  refine load_mid 33 (.tmp 1) rfl rfl (some 7) rfl w.heap.size 0 rfl X (rangeAt_row q0) _ Tryd.underlying33 rfl (by rw [H5.out]; exact infoI) ?_
  have Q1 := Lib.hid q1
  have Q0 := Lib.hid q0
  have GB := Lib.hid gb
  clear q0 q1 gb
  go_wp2_with fail
  refine (HR.out _ GB.out).mono ?_
  rintro e w2 ⟨rfl, hb2⟩
  have B2 := Lib.hid hb2
  clear hb2
  go_wp2_with fail
  refine (HI.out _).mono ?_
  rintro e w3 ⟨rfl, hb3⟩
  have q3 : Below w1.heap.size w1 (w2.alloc (.cells #[.int .i64 ms, .string (B ml), .int .u64 mn, .int .u64 mv] 25)) := B2.out.alloc B2.out.size _
  have B3 := Lib.hid (q3.trans (hb3.mono q3.size))
  clear hb3 q3
  go_wp2_with (with_reducible refine stop_store 25 rfl ?_)
  have q4 : Below w1.heap.size w1 (w3.alloc (.cells #[.int .i64 0, .int .u64 0, .string (B []), .slice none 0 0, .bool false] 33)) := B3.out.alloc B3.out.size _
  refine store_row 25 (.tmp 2) (.tmp 22) rfl rfl rfl (w.heap.size + 1) #[.int .i64 0, .string ⟨#[]⟩, .int .u64 0, .int .u64 0] rfl rfl 25 _ (heap_below q4 (by omega) Q1.out) infoE rfl (by simp [Value.oneCell']) ?_
  have B4 := Lib.hid q4
  clear q4
  go_wp2
  exact post_row_tmp (w.heap.size + 1) Tryd.results11 25 _ _ (.int .i64 2) rfl rfl (setRow_heap _ _ _ _ _ _ (heap_below B4.out (by omega) Q1.out)) Tryd.underlying25 rfl infoE rfl ⟨HP.out, setRow_below _ (by omega) (GB.out.trans (B4.out.mono (by omega)))⟩
set_option maxHeartbeats 1600000 in
set_option maxRecDepth 100000 in
theorem Of_yes (t : Tr) (cs : List Value) (w : World) (h : TAt w t cs) (hr : (readT t).right = true) : Calls Tryd.prog 11 #[.agg cs.toArray] w fun e w' => OfR t e ∧ Below w.heap.size w w' := by
  obtain ⟨hb1, hb2, hb3⟩ := readT_bound h
  have HR := Lib.hid fun (W : World) (hb : Below w.heap.size w W) => read_any t cs W (h.keep hb (Nat.le_refl _))
  obtain ⟨m, hm⟩ : ∃ m, readT t = m := ⟨_, rfl⟩
  rw [hm] at HR hr hb1 hb2 hb3
  have HI := Lib.hid fun (W : World) => Item_any m.s m.l m.n m.v W (Nat.le_trans hb1 R47_max) hb1 hb2 hb3 hr
  have HP : Hid (∀ k : Bool, (k = true ↔ rightT 8 t = true ∧ rightT 8 m.tree = true ∧ t = m.tree) → (k = true → OfR t (.returned (.tuple #[nmV m, .int .i64 (0 : Nat)]))) ∧ (k = false → OfR t (.returned (.tuple #[nmV Nm.zero, .int .i64 (2 : Nat)])))) := Lib.hid fun k hk => by
    constructor
    · intro h1
      obtain ⟨h2, _, h3⟩ := hk.1 h1
      exact ⟨_, _, rfl, .inl ⟨rfl, ⟨hr, h2, h3⟩, hm.symm⟩⟩
    · intro h1
      refine ⟨_, _, rfl, .inr ⟨rfl, rfl, fun ⟨_, h2, h3⟩ => ?_⟩⟩
      rw [hm] at h3
      have := hk.2 ⟨h2, by rw [← h3]; exact h2, h3⟩
      rw [h1] at this
      cases this
  have HS := Lib.hid fun (W : World) (hb : Below w.heap.size w W) (ds : List Value) (hd : TAt W m.tree ds) => Same_any t m.tree cs ds W (h.keep hb (Nat.le_refl _)) hd
  have h5 : cs.toArray.size = 5 := by obtain ⟨_, _, _, he, _⟩ := h.form; rw [he]; rfl
  have H1 := Lib.hid (item_oneCell h)
  generalize cs.toArray = X at *
  have H5 := Lib.hid h5
  have HNV : Hid (nmV m = .agg #[.int .i64 m.s, .string (B m.l), .int .u64 m.n, .int .u64 m.v]) := Lib.hid rfl
  rw [HNV.out] at HR HP
  clear hm hb1 hb2 hb3 h hr h5
  have HT : Hid (nameT m.s m.l m.n m.v = m.tree) := Lib.hid rfl
  generalize m.tree = mt at *
  generalize m.s = ms at *
  generalize m.l = ml at *
  generalize m.n = mn at *
  generalize m.v = mv at *
  go_enter Tryd.func11, Tryd.ntmps11
  go_wp2_with (with_reducible refine stop_load 33 rfl ?_)
  obtain ⟨w1, hw1⟩ : ∃ w1, (w.alloc (.cells X 33)).alloc (.cells #[.int .i64 0, .string ⟨#[]⟩, .int .u64 0, .int .u64 0] 25) = w1 := ⟨_, rfl⟩
  have gS : w1.heap.size = w.heap.size + 1 + 1 := by rw [← hw1]; show ((w.heap.push _).push _).size = _; simp
  have gb : Below w.heap.size w w1 := by rw [← hw1]; exact ((Below.refl _ _).alloc (Nat.le_refl _) _).alloc (by show w.heap.size ≤ (w.heap.push _).size; simp) _
  have q0 : w1.heap[w.heap.size]? = some (.cells X 33 (0, 0)) := by rw [← hw1]; exact heap_under (heap_alloc_last w _)
  have q1 : w1.heap[w.heap.size + 1]? = some (.cells #[.int .i64 0, .string ⟨#[]⟩, .int .u64 0, .int .u64 0] 25 (0, 0)) := by rw [← hw1]; exact heap_at (by show (w.heap.push _).size = _; simp)
  rw [hw1]
  clear hw1
  refine load_mid 33 (.tmp 1) rfl rfl (some 7) rfl w.heap.size 0 rfl X (rangeAt_row q0) _ Tryd.underlying33 rfl (by rw [H5.out]; exact infoI) ?_
  have Q1 := Lib.hid q1
  have Q0 := Lib.hid q0
  have GB := Lib.hid gb
  clear q0 q1 gb
  go_wp2_with fail
  refine (HR.out _ GB.out).mono ?_
  rintro e w2 ⟨rfl, hb2⟩
  have B2 := Lib.hid hb2
  clear hb2
  go_wp2_with fail
  refine (HI.out _).mono ?_
  rintro e w3 ⟨ds, rfl, htd, hb3⟩
  rw [HT.out] at htd
  have q2 : Below w1.heap.size w1 (w2.alloc (.cells #[.int .i64 ms, .string (B ml), .int .u64 mn, .int .u64 mv] 25)) := B2.out.alloc B2.out.size _
  have hl2 : w2.heap.size < w3.heap.size := Nat.lt_of_lt_of_le lt_of_last hb3.size
  have q4 := heap_below hb3 lt_of_last (heap_alloc_last w2 (.cells #[.int .i64 ms, .string (B ml), .int .u64 mn, .int .u64 mv] 25))
  have B3 := Lib.hid (q2.trans (hb3.mono q2.size))
  have Q4 := Lib.hid q4
  have hd5 : ds.toArray.size = 5 := by rw [List.size_toArray]; exact tat_len htd
  have HD1 := Lib.hid (item_oneCell htd)
  have HTD := Lib.hid htd
  have HSD := Lib.hid fun (W : World) (hb : Below w.heap.size w W) (hd : TAt W mt ds) => HS.out W hb ds hd
  have HD5 := Lib.hid hd5
  clear hb3 q2 q4 htd hd5 HS
  generalize ds.toArray = Y at *
  go_wp2_with (with_reducible refine stop_store 33 rfl ?_)
  refine store_row 33 (.tmp 5) (.tmp 12) rfl rfl rfl w3.heap.size Y rfl rfl 33 #[.int .i64 0, .int .u64 0, .string ⟨#[]⟩, .slice none 0 0, .bool false] (heap_alloc_last w3 _) (by rw [HD5.out]; exact infoI) (by rw [HD5.out]; rfl) HD1.out ?_
  rw [World.setRow_alloc_new]
  have b4 : Below w3.heap.size w3 (w3.alloc (.cells Y 33)) := (Below.refl _ _).alloc (Nat.le_refl _) _
  have qy := heap_alloc_last w3 (.cells Y 33)
  have ly : w3.heap.size < (w3.alloc (.cells Y 33)).heap.size := lt_of_last
  have B4 := Lib.hid (B3.out.trans (b4.mono B3.out.size))
  have T4 := Lib.hid (HTD.out.keep b4 (Nat.le_refl _))
  have Q5 := Lib.hid (heap_below b4 hl2 Q4.out)
  have QY := Lib.hid qy
  generalize w3.alloc (.cells Y 33) = w4 at *
  have QX := Lib.hid (heap_below B4.out (by omega) Q0.out)
  have BW := Lib.hid (GB.out.trans (B4.out.mono (by omega)))
  clear b4 qy HTD
  go_wp2_with (with_reducible refine stop_load 33 rfl ?_)
  refine load_mid_g 33 (.tmp 1) rfl rfl (some 17) rfl w.heap.size 0 rfl X (rangeAt_row QX.out) _ Tryd.underlying33 rfl (by rw [H5.out]; exact infoI) ?_
  go_wp2_with (with_reducible refine stop_load 33 rfl ?_)
  refine load_mid_g 33 (.tmp 5) rfl rfl (some 18) rfl w3.heap.size 0 rfl Y (rangeAt_row QY.out) _ Tryd.underlying33 rfl (by rw [HD5.out]; exact infoI) ?_
  go_wp2_with fail
  refine (HSD.out _ BW.out T4.out).mono ?_
  rintro e w5 ⟨⟨k, rfl, hk⟩, hb5⟩
  have HK := Lib.hid (HP.out k hk)
  have hs4 := B4.out.size
  have B5 := Lib.hid (B4.out.trans (hb5.mono hs4))
  have Q6 := Lib.hid (heap_below hb5 (by omega) Q5.out)
  have hl6 : w2.heap.size < w5.heap.size := by have := hb5.size; omega
  clear hb5 hk HP
  cases k with
  | false =>
    go_wp2_with (with_reducible refine stop_store 25 rfl ?_)
    refine store_row 25 (.tmp 2) (.tmp 22) rfl rfl rfl (w.heap.size + 1) #[.int .i64 0, .string ⟨#[]⟩, .int .u64 0, .int .u64 0] rfl rfl 25 _ (heap_below B5.out (by omega) Q1.out) infoE rfl (by simp [Value.oneCell']) ?_
    go_wp2
    exact post_row_tmp (w.heap.size + 1) Tryd.results11 25 _ _ (.int .i64 2) rfl rfl (setRow_heap _ _ _ _ _ _ (heap_below B5.out (by omega) Q1.out)) Tryd.underlying25 rfl infoE rfl ⟨HK.out.2 (by first | rfl | trivial), setRow_below _ (by omega) (GB.out.trans (B5.out.mono (by omega)))⟩
  | true =>
    go_wp2_with (with_reducible refine stop_load 25 rfl ?_)
    refine load_mid 25 (.tmp 4) rfl rfl (some 23) rfl w2.heap.size 0 rfl _ (rangeAt_row Q6.out) _ Tryd.underlying25 rfl infoE ?_
    go_wp2_with (with_reducible refine stop_store 25 rfl ?_)
    refine store_row 25 (.tmp 2) (.tmp 23) rfl rfl rfl (w.heap.size + 1) #[.int .i64 ms, .string (B ml), .int .u64 mn, .int .u64 mv] rfl rfl 25 _ (heap_below B5.out (by omega) Q1.out) infoE rfl (by simp [Value.oneCell']) ?_
    go_wp2
    exact post_row_tmp (w.heap.size + 1) Tryd.results11 25 _ _ (.int .i64 0) rfl rfl (setRow_heap _ _ _ _ _ _ (heap_below B5.out (by omega) Q1.out)) Tryd.underlying25 rfl infoE rfl ⟨HK.out.1 (by first | rfl | trivial), setRow_below _ (by omega) (GB.out.trans (B5.out.mono (by omega)))⟩
theorem Of_any (t : Tr) (cs : List Value) (w : World) (h : TAt w t cs) : Calls Tryd.prog 11 #[.agg cs.toArray] w fun e w' => OfR t e ∧ Below w.heap.size w w' := by
  cases hr : (readT t).right with
  | false => exact Of_no t cs w h hr
  | true => exact Of_yes t cs w h hr
end Go.Proofs.YtlbpodddokhmaaaDoor.Itm
