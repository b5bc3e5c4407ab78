/-
  Right items: the walks of the reference's Right and the program's right and Right.
  Conditions: none.
-/
import Derived.Test.YthoickghfjgmmaaDoorItm3
namespace Go.Proofs.YthoickghfjgmmaaDoor.Itm
open Go.ChangeShapes Go.WideShapes Go.ChangeAt Go.RowKit
set_option maxHeartbeats 1600000 in
set_option maxRecDepth 100000 in
theorem rRight_item (t : Tr) (cs : List Value) (w : World) (h : TAt w t cs) : Calls Tryd.prog 12 #[.agg cs.toArray] w fun e w' => e = .returned (.bool (rightT 8 t)) ∧ Below w.heap.size w w' := by
  have HD := Lib.hid fun (W : World) (hb : Below w.heap.size w W) => Deep_any 9 (by omega) t cs W (h.keep hb (Nat.le_refl _))
  have HC := Lib.hid fun (W : World) (hb : Below w.heap.size w W) => plain_any h W hb
  have hd := deepB_le 9 t
  have h5 : cs.toArray.size = 5 := by obtain ⟨_, _, _, he, _⟩ := h.form; rw [he]; rfl
  rw [rightT_eq 8 t]
  generalize deepB 9 t = d at *
  generalize plainB t = pb at *
  generalize cs.toArray = X at *
  obtain ⟨rb, hrb⟩ : ∃ rb, (decide (d ≤ 8) && pb) = rb := ⟨_, rfl⟩
  rw [hrb]
  have HRB := Lib.hid hrb
  have H5 := Lib.hid h5
  clear h h5 hrb
  go_enter Tryd.func12, Tryd.ntmps12
  go_wp2_with (with_reducible refine stop_load 29 rfl ?_)
  have gb : Below w.heap.size w (w.alloc (.cells X 29)) := (Below.refl _ _).alloc (Nat.le_refl _) _
  have gh := heap_alloc_last w (.cells X 29)
  have gl : w.heap.size < (w.alloc (.cells X 29)).heap.size := lt_of_last
  refine load_mid 29 (.tmp 1) rfl rfl (some 3) rfl w.heap.size 0 rfl X (rangeAt_row gh) _ Tryd.underlying29 rfl (by rw [H5.out]; exact infoI) ?_
  have GB := Lib.hid gb
  have GH := Lib.hid gh
  clear gb gh
  generalize w.alloc (.cells X 29) = w1 at *
  go_wp2_with fail
  refine (HD.out _ GB.out).mono ?_
  rintro e w2 ⟨rfl, hb2⟩
  have G2 := Lib.hid (GB.out.trans (hb2.mono GB.out.size))
  have GH2 := Lib.hid (heap_below hb2 gl GH.out)
  clear hb2 GB GH HD
  by_cases hd9 : (d : Int) ≤ 8
  · have hrt : rb = pb := by rw [← HRB.out, decide_eq_true (by omega)]; rfl
    subst hrt
    go_wp2_with (with_reducible refine stop_load 29 rfl ?_)
    refine load_mid_g 29 (.tmp 1) rfl rfl (some 7) rfl w.heap.size 0 rfl X (rangeAt_row GH2.out) _ Tryd.underlying29 rfl (by rw [H5.out]; exact infoI) ?_
    go_wp2_with fail
    refine (HC.out _ G2.out).mono ?_
    rintro e w3 ⟨rfl, hb3⟩
    have G3 := Lib.hid (G2.out.trans (hb3.mono G2.out.size))
    clear hb3
    go_wp2
    go_ret
    exact ⟨rfl, G3.out⟩
  · have hrt : rb = false := by rw [← HRB.out, decide_eq_false (by omega)]; rfl
    subst hrt
    go_wp2
    go_ret
    exact ⟨rfl, G2.out⟩
theorem item_oneCell {w : World} {t : Tr} {cs : List Value} (h : TAt w t cs) : cs.toArray.all (·.oneCell') = true := by
  obtain ⟨_, _, _, rfl, _⟩ := h.form
  simp [Value.oneCell']
theorem okN_len {k : Int} {n : Nat} {s : List UInt8} {l : List Tr} {o : Bool} {f : Tr → Bool} (hk : ¬ k = 4) : (okN k n s l.length o && l.all f) = okN k n s l.length o := by
  cases h : okN k n s l.length o with
  | false => rfl
  | true =>
    rcases okN_true h with ⟨_, _, h0, _⟩ | ⟨_, _, h0, _⟩ | ⟨_, _, h0, _⟩ | ⟨h4, _⟩
    · rw [List.length_eq_zero_iff.1 h0]; rfl
    · rw [List.length_eq_zero_iff.1 h0]; rfl
    · rw [List.length_eq_zero_iff.1 h0]; rfl
    · exact absurd h4 hk
end Go.Proofs.YthoickghfjgmmaaDoor.Itm
