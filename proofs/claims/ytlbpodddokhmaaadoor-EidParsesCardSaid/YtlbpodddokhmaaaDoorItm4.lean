/-
  Right items: the walks of the reference's Right and the program's right and Right.
  Conditions: none.
-/
import Derived.Test.YtlbpodddokhmaaaDoorItm3
namespace Go.Proofs.YtlbpodddokhmaaaDoor.Itm
open Go.ChangeShapes Go.WideShapes Go.ChangeAt Go.RowKit
theorem item_oneCell {w : World} {t : Tr} {cs : List Value} (h : TAt w t cs) : cs.toArray.all (·.oneCell') = true := by
  obtain ⟨_, _, _, rfl, _⟩ := h.form
  simp [Value.oneCell']
theorem okN_len {k : Int} {n : Nat} {s : List UInt8} {l : List Tr} {o : Bool} {f : Tr → Bool} (hk : ¬ k = 4) : (okN k n s l.length o && l.all f) = okN k n s l.length o := by
  cases h : okN k n s l.length o with
  | false => rfl
  | true =>
    rcases okN_true h with ⟨_, _, h0, _⟩ | ⟨_, _, h0, _⟩ | ⟨_, _, h0, _⟩ | ⟨h4, _⟩
    · rw [List.length_eq_zero_iff.1 h0]; rfl
    · rw [List.length_eq_zero_iff.1 h0]; rfl
    · rw [List.length_eq_zero_iff.1 h0]; rfl
    · exact absurd h4 hk
set_option maxHeartbeats 3200000 in
set_option maxRecDepth 100000 in
theorem right_any : ∀ (d : Nat), d ≤ 8 → ∀ (t : Tr) (cs : List Value) (w : World), TAt w t cs →
    Calls Tryd.prog 43 #[.agg cs.toArray, .int .i64 d] w fun e w' => e = .returned (.bool (rightT d t)) ∧ Below w.heap.size w w' := by
  intro d
  induction d with
  | zero =>
    intro _ t cs w h
    obtain ⟨a, c, C, rfl, _⟩ := box_item h
    clear h
    go_enter Tryd.func43, Tryd.ntmps43
    go_wp2
    go_ret
    exact ⟨rfl, by ((repeat' (with_reducible first | exact Below.refl _ _ | assumption | refine Below.drew ?_ | refine below_drewN ?_ _ | refine Below.setCell ?_ ?_ _ | refine Below.alloc ?_ ?_ _ | refine Below.ext ?_ ?_ _ | refine Below.trans ?_ (Below.mono ‹_› ?_))) <;> first | omega | (simp; done) | (simp; omega))⟩
  | succ d ih =>
    intro hd t cs w h
    obtain ⟨a, c, C, rfl, _, _, hll, hel⟩ := box_item h
    obtain ⟨z, hz⟩ : ∃ z : Int, ((d + 1 : Nat) : Int) = z := ⟨_, rfl⟩
    have hzm : z - 1 = (d : Int) := by omega
    have hz1 : 1 ≤ z := by omega
    have hz9 : z ≤ 9 := by omega
    have hr : rightT (d + 1) t = (okN t.k t.n t.s t.l.length t.o && t.l.all (rightT d)) := rfl
    have hr2 : ¬ t.k = 4 → rightT (d + 1) t = okN t.k t.n t.s t.l.length t.o := fun h4 => hr.trans (okN_len h4)
    obtain ⟨n, hn⟩ : ∃ n, t.l.length = n := ⟨_, rfl⟩
    rw [hn] at hll hr hr2
    rw [hn, hz]
    have IH := Lib.hid (ih (by omega))
    rw [← hzm] at IH
    have HN := Lib.hid hn
    have HEL := Lib.hid hel
    have HR := Lib.hid hr
    have HR2 := Lib.hid hr2
    have hml : n ≤ 9223372036854775807 := by unfold R47 at hll; omega
    generalize rightT (d + 1) t = rb at *
    generalize t.k = k at *
    generalize t.n = tn at *
    generalize t.s = s at *
    generalize t.o = o at *
    clear hn hel ih h hll hz hzm hr hr2
    by_cases hk4 : k = 4
    · have hr4 : rb = ((decide (tn = 0) && decide (s = []) && decide (n ≤ 1000)) && t.l.all (rightT d)) := by rw [HR.out, hk4]; rfl
      have HR4 := Lib.hid hr4
      subst hk4
      clear HR HR2 hr4
      by_cases hok : tn = 0 ∧ s = [] ∧ n ≤ 1000
      · obtain ⟨rfl, rfl, hle⟩ := hok
        have hpt : rb = t.l.all (rightT d) := by rw [HR4.out]; simp [hle]
        have HPT := Lib.hid hpt
        have hle2 : (n : Int) ≤ 1000 := by omega
        clear HR4 hpt
        rw [show ((0 : Nat) : Int) = 0 from rfl]
        go_enter Tryd.func43, Tryd.ntmps43
        go_wp2_with fail
        obtain ⟨w1, hw1⟩ : ∃ w1, w.alloc (.cells #[.int .i64 4, .int .u64 0, .string (B []), .slice a n c, .bool o] 33) = w1 := ⟨_, rfl⟩
        have gS : w1.heap.size = w.heap.size + 1 := by rw [← hw1]; show (w.heap.push _).size = _; simp
        have gb : Below w.heap.size w w1 := by rw [← hw1]; exact (Below.refl _ _).alloc (Nat.le_refl _) _
        rw [hw1]
        clear hw1
        have GB := Lib.hid gb
        clear gb
        go_loopw [63] (fun s63 wr => ∃ i : Nat, i ≤ n ∧ s63 = .int .i64 (i : Int) ∧ Hid ((t.l.take i).all (rightT d) = true) ∧ Below w1.heap.size w1 wr) (fun s _ => n - (intOf s).toNat)
        case atStart => exact ⟨0, by omega, rfl, Lib.hid (by simp), Below.refl _ _⟩
        case round =>
          obtain ⟨i, hi, rfl, hal, hb⟩ := hrel
          have HE := Lib.hid (GB.out.trans (hb.mono (by omega)))
          by_cases hend : i = n
          · have hlt : ¬ (i : Int) < (n : Int) := by omega
            have hfin := hal.out
            rw [hend, ← HN.out, List.take_length] at hfin
            have HFIN := Lib.hid (HPT.out.trans hfin)
            clear hend hb hfin
            go_wp2
            go_ret
            exact ⟨by rw [HFIN.out]; rfl, HE.out⟩
          · have hlt : (i : Int) < (n : Int) := by omega
            obtain ⟨x, hx⟩ : ∃ x, t.l[i]? = some x := ⟨t.l[i]'(by rw [HN.out]; omega), List.getElem?_eq_getElem (by rw [HN.out]; omega)⟩
            obtain ⟨b, f, rfl, hbl, hra, hta, hc5⟩ := HEL.out i x hx
            have hb0 : Below w.heap.size w wr := HE.out
            have HRA := Lib.hid (rangeAt_below hra hb0 hbl)
            have hbs0 := hb.size
            have HC := Lib.hid fun (W : World) (hW : Below wr.heap.size wr W) => IH.out x (C i) W (hta.keep (hb0.trans (hW.mono hb0.size)) (Nat.le_refl _))
            have HC5 := Lib.hid (show (C i).toArray.size = 5 by rw [List.size_toArray, hc5])
            have HC1 := Lib.hid (item_oneCell hta)
            have HRB1 := Lib.hid (show wr.rangeAt b (f + i * 5) (C i).toArray.toList from HRA.out)
            have HB1 := Lib.hid hb
            have HAT2 := Lib.hid (all_take hx hal.out)
            clear hend hx hra hb0 hc5 hb hal hta HRA
            generalize rightT d x = px at *
            generalize (C i).toArray = X at *
            go_wp2_with (with_reducible refine stop_load 33 rfl ?_)
            refine load_mid 33 (.tmp 65) rfl rfl (some 66) rfl b (f + i * 5) rfl X HRB1.out _ Tryd.underlying33 rfl (by rw [HC5.out]; exact infoI) ?_
            go_wp2_with (with_reducible refine stop_store 33 rfl ?_)
            refine store_row 33 (.tmp 6) (.tmp 66) rfl rfl rfl wr.heap.size X rfl rfl 33 #[.int .i64 0, .int .u64 0, .string ⟨#[]⟩, .slice none 0 0, .bool false] (heap_alloc_last wr _) (by rw [HC5.out]; exact infoI) (by rw [HC5.out]; rfl) HC1.out ?_
            rw [World.setRow_alloc_new]
            have q1 : Below wr.heap.size wr (wr.alloc (.cells X 33)) := (Below.refl _ _).alloc (Nat.le_refl _) _
            have q2 := heap_alloc_last wr (.cells X 33)
            have Q1 := Lib.hid q1
            have Q2 := Lib.hid q2
            clear q1 q2
            generalize wr.alloc (.cells X 33) = w3 at *
            go_wp2_with (with_reducible refine stop_load 33 rfl ?_)
            refine load_mid 33 (.tmp 6) rfl rfl (some 67) rfl wr.heap.size 0 rfl X (rangeAt_row Q2.out) _ Tryd.underlying33 rfl (by rw [HC5.out]; exact infoI) ?_
            go_wp2_with fail
            refine (HC.out _ Q1.out).mono ?_
            rintro e w2 ⟨rfl, hb2⟩
            have HW := Lib.hid (HB1.out.trans ((Q1.out.trans (hb2.mono Q1.out.size)).mono hbs0))
            have HWE := Lib.hid (HE.out.trans ((Q1.out.trans (hb2.mono Q1.out.size)).mono HE.out.size))
            clear hb2 HB1 HC Q1 Q2
            cases px with
            | true =>
              have HA := Lib.hid (HAT2.out.1 rfl)
              go_wp2
              go_round
              case rel => exact ⟨i + 1, by omega, by go_num, HA, HW.out⟩
              case measure => simp [intOf]; omega
            | false =>
              have HA := Lib.hid (HPT.out.trans (HAT2.out.2 rfl))
              go_wp2
              go_ret
              exact ⟨by rw [HA.out]; rfl, HWE.out⟩
      · have hrf : rb = false := by
          rw [HR4.out]
          have : ¬ ((decide (tn = 0) && decide (s = []) && decide (n ≤ 1000)) = true) := by simpa [and_assoc] using hok
          rw [Bool.not_eq_true] at this
          rw [this]
          rfl
        have HOK := Lib.hid hok
        subst hrf
        clear HR4 hok
        go_enter Tryd.func43, Tryd.ntmps43
        go_wp2_with fail
        all_goals first
          | (go_ret; exact ⟨rfl, by ((repeat' (with_reducible first | exact Below.refl _ _ | assumption | refine Below.drew ?_ | refine below_drewN ?_ _ | refine Below.setCell ?_ ?_ _ | refine Below.alloc ?_ ?_ _ | refine Below.ext ?_ ?_ _ | refine Below.trans ?_ (Below.mono ‹_› ?_))) <;> first | omega | (simp; done) | (simp; omega))⟩)
          | (exfalso; exact HOK.out ⟨by omega, ‹_›, by omega⟩)
    · have HRB := Lib.hid (HR2.out hk4)
      clear HR HR2
      go_enter Tryd.func43, Tryd.ntmps43
      go_wp2
      all_goals
        go_ret
        exact ⟨ret_bool (by rw [HRB.out]; simp_all [okN]), by ((repeat' (with_reducible first | exact Below.refl _ _ | assumption | refine Below.drew ?_ | refine below_drewN ?_ _ | refine Below.setCell ?_ ?_ _ | refine Below.alloc ?_ ?_ _ | refine Below.ext ?_ ?_ _ | refine Below.trans ?_ (Below.mono ‹_› ?_))) <;> first | omega | (simp; done) | (simp; omega))⟩
end Go.Proofs.YtlbpodddokhmaaaDoor.Itm
