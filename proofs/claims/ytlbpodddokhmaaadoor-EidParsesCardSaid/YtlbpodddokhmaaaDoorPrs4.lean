/-
  The walks of the reference's value and Parse.
  Conditions: at most 90 bytes.
-/
import Derived.Test.YtlbpodddokhmaaaDoorPrs3
import Derived.Test.YtlbpodddokhmaaaDoorRef10b
namespace Go.Proofs.YtlbpodddokhmaaaDoor.Fmt
open Go.ChangeShapes Go.WideShapes Go.ChangeAt Go.RowKit Go.Deep Go.Lib Go.Proofs.YtlbpodddokhmaaaDoor.Itm Go.Proofs.YtlbpodddokhmaaaDoor.Eid
def vstep (acc : Nat) (c : UInt8) : Nat := if 48 ≤ c.toNat ∧ c.toNat ≤ 57 then acc * 10 + (c.toNat - 48) else acc
def valT (s : List UInt8) : Nat := (s.take 10).foldl vstep 0
theorem vfold_lt : ∀ (l : List UInt8) (acc k : Nat), acc < 10 ^ k → l.foldl vstep acc < 10 ^ (k + l.length)
  | [], acc, k, h => h
  | c :: r, acc, k, h => by
    rw [List.foldl_cons, List.length_cons, show k + (r.length + 1) = (k + 1) + r.length by omega]
    refine vfold_lt r _ _ ?_
    unfold vstep
    split
    · have : 10 ^ (k + 1) = 10 ^ k * 10 := Nat.pow_succ ..
      omega
    · exact Nat.lt_of_lt_of_le h (Nat.pow_le_pow_right (by omega) (by omega))
theorem vtake_lt (s : List UInt8) (i : Nat) (h : i ≤ 10) : (s.take i).foldl vstep 0 < 10000000000 := by
  have h1 := vfold_lt (s.take i) 0 0 (by decide)
  have h2 : (s.take i).length ≤ 10 := by rw [List.length_take]; omega
  have h3 : (10 : Nat) ^ (0 + (s.take i).length) ≤ 10 ^ 10 := Nat.pow_le_pow_right (by omega) (by omega)
  have h4 : (10 : Nat) ^ 10 = 10000000000 := by decide
  omega
theorem vfold_dec : ∀ (l : List UInt8) (acc : Nat), (∀ c ∈ l, 48 ≤ c.toNat ∧ c.toNat ≤ 57) → l.foldl vstep acc = valD l acc
  | [], acc, _ => by rw [valD_nil]; rfl
  | c :: r, acc, h => by
    rw [List.foldl_cons, valD_cons, vfold_dec r _ fun d hd => h d (by simp [hd])]
    unfold vstep
    rw [if_pos (h c (by simp))]
theorem valT_dec {n : Nat} (h : n ≤ 4294967295) : valT (decDigits n) = n := by
  have h10 : (decDigits n).length ≤ 10 := by
    rw [decDigits_length]
    rcases Nat.lt_or_ge 10 (nDigits n) with h1 | h1
    · exfalso
      have := Nat.lt_or_ge n (10 ^ 10)
      rcases this with h2 | h2
      · have h3 : ∀ k, n < 10 ^ k → 1 ≤ k → nDigits n ≤ k := by
          intro k
          induction k with
          | zero => intro _ hk; omega
          | succ k ih =>
            intro hk _
            rcases Nat.lt_or_ge n (10 ^ k) with h5 | h5
            · rcases Nat.eq_zero_or_pos k with h6 | h6
              · subst h6
                have : n = 0 := by simpa using h5
                subst this
                rw [nDigits_small (by omega)]
                omega
              · have := ih h5 h6
                omega
            · rw [nDigits_unique k n h5 hk]
              omega
        have := h3 10 h2 (by omega)
        omega
      · have h4 : (10 : Nat) ^ 10 = 10000000000 := by decide
        omega
    · exact h1
  unfold valT
  rw [List.take_of_length_le h10, vfold_dec _ _ (dec_digits n), val_dec]
set_option maxHeartbeats 1600000 in
set_option maxRecDepth 100000 in
theorem value_any (s : List UInt8) (hl : s.length ≤ 1000) (w : World) : Calls Tryd.prog 17 #[.string (B s)] w fun e w' => e = .returned (.int .u64 (valT s)) ∧ w = w' := by
  go_enter Tryd.func17, Tryd.ntmps17
  go_wp2_with fail
  go_loopw [3, 4] (fun s3 s4 wr => ∃ (i n : Nat), i ≤ s.length ∧ i ≤ 10 ∧ s4 = .int .i64 (i : Int) ∧ s3 = .int .u64 (n : Nat) ∧ Hid (n = (s.take i).foldl vstep 0) ∧ n < 10000000000 ∧ wr = w) (fun _ s4 _ => 10 - (RowKit.intOf s4).toNat)
  case atStart => exact ⟨0, 0, by omega, by omega, rfl, rfl, Lib.hid rfl, by omega, rfl⟩
  case round =>
    obtain ⟨i, n, hi, hi10, rfl, rfl, HN, hn, rfl⟩ := hrel
    by_cases hend : i < s.length ∧ i < 10
    · obtain ⟨hil, hi1⟩ := hend
      have hlt : (i : Int) < (s.length : Int) := by omega
      have hlt2 : (i : Int) < 10 := by omega
      obtain ⟨c, hc⟩ : ∃ c, s[i]? = some c := ⟨s[i], List.getElem?_eq_getElem hil⟩
      have hcg : s[i] = c := by rw [List.getElem?_eq_getElem hil] at hc; exact Option.some.inj hc
      have HNX : Hid ((s.take (i + 1)).foldl vstep 0 = vstep n c) := Lib.hid (by
        rw [List.take_add_one, hc, List.foldl_append, ← HN.out]
        rfl)
      have hv := vtake_lt s (i + 1) (by omega)
      rw [HNX.out] at hv
      have HV := Lib.hid hv
      have hcb := c.toNat_lt
      have hn2 : n < 10000000000 := hn
      clear hc hv
      by_cases hd : 48 ≤ c.toNat ∧ c.toNat ≤ 57
      · obtain ⟨hd1, hd2⟩ := hd
        have HS : Hid (vstep n c = n * 10 + c.toNat - 48) := Lib.hid (by unfold vstep; rw [if_pos ⟨hd1, hd2⟩]; omega)
        have hd1' : (48 : Int) ≤ (c.toNat : Int) := by omega
        have hd2' : (c.toNat : Int) ≤ 57 := by omega
        have hw1 : ((n : Int) * 10) % 18446744073709551616 = (n : Int) * 10 := by omega
        go_wp2
        go_round
        case rel => exact ⟨i + 1, n * 10 + c.toNat - 48, by omega, by omega, by go_num, by congr 1; omega, Lib.hid (by rw [HNX.out, HS.out]), by have := HV.out; rw [HS.out] at this; exact this, by first | rfl | trivial⟩
        case measure => simp [RowKit.intOf]; omega
      · have HS : Hid (vstep n c = n) := Lib.hid (by unfold vstep; rw [if_neg hd])
        by_cases hd1 : 48 ≤ c.toNat
        · have hd1' : (48 : Int) ≤ (c.toNat : Int) := by omega
          have hd2' : ¬ (c.toNat : Int) ≤ 57 := by omega
          clear hd
          go_wp2
          go_round
          case rel => exact ⟨i + 1, n, by omega, by omega, by go_num, rfl, Lib.hid (by rw [HNX.out, HS.out]), hn2, by first | rfl | trivial⟩
          case measure => simp [RowKit.intOf]; omega
        · have hd1' : ¬ (48 : Int) ≤ (c.toNat : Int) := by omega
          clear hd
          go_wp2
          go_round
          case rel => exact ⟨i + 1, n, by omega, by omega, by go_num, rfl, Lib.hid (by rw [HNX.out, HS.out]), hn2, by first | rfl | trivial⟩
          case measure => simp [RowKit.intOf]; omega
    · have HF : Hid (n = valT s) := Lib.hid (by
        rw [HN.out]
        unfold valT
        by_cases h10 : i = 10
        · rw [h10]
        · have : i = s.length := by omega
          rw [this, List.take_length, List.take_of_length_le (by omega)])
      by_cases hil : i < s.length
      · have hlt : (i : Int) < (s.length : Int) := by omega
        have hlt2 : ¬ (i : Int) < 10 := by omega
        clear hend
        go_wp2
        go_ret
        exact ⟨by rw [← HF.out]; rfl, rfl⟩
      · have hlt : ¬ (i : Int) < (s.length : Int) := by omega
        clear hend
        go_wp2
        go_ret
        exact ⟨by rw [← HF.out]; rfl, rfl⟩
/-- The first point of a text, and the name that the reference tries. -/
def DotAt (s : List UInt8) (i : Nat) : Prop := 4 ≤ i ∧ s[i]? = some 46 ∧ ∀ j, 4 ≤ j → j < i → s[j]? ≠ some 46
theorem cand_dtn {s : List UInt8} {m : Nm} (h : m.right = true) (ht : textB m.s m.l m.n m.v = s) (hno : ¬ (s.take 4 = ipnP)) : m = ⟨1, s.drop 4, 0, 0⟩ := by
  obtain ⟨x, l, n, v⟩ := m
  rcases right_cases h with ⟨g1, g2, g3, _⟩ | ⟨g1, _⟩ <;> simp only at g1 ht
  · simp only at g2 g3
    subst g1 g2 g3
    have ht' : textB 1 l 0 0 = s := ht
    rw [textB_one] at ht'
    subst ht'
    rfl
  · subst g1
    have ht' : textB 2 l n v = s := ht
    rw [textB_two] at ht'
    subst ht'
    exact absurd rfl hno
theorem cand_ipn {s : List UInt8} {m : Nm} (h : m.right = true) (ht : textB m.s m.l m.n m.v = s) (hi : s.take 4 = ipnP) {i : Nat} (hd : DotAt s i) : m = ⟨2, [], valT ((s.take i).drop 4), valT (s.drop (i + 1))⟩ := by
  obtain ⟨x, l, n, v⟩ := m
  rcases right_cases h with ⟨g1, g2, g3, _⟩ | ⟨g1, g2, g3, g4⟩ <;> simp only at g1 ht
  · subst g1
    have ht' : textB 1 l n v = s := ht
    rw [textB_one] at ht'
    subst ht'
    exact absurd hi (by simp [dtnP, ipnP])
  · simp only at g2 g3 g4
    subst g1 g2
    have ht' : textB 2 [] n v = s := ht
    rw [textB_two] at ht'
    obtain ⟨d1, d2, d3⟩ := hd
    have hsd : s.drop 4 = decDigits n ++ 46 :: decDigits v := by rw [← ht']; rfl
    have e1 : (s.drop 4)[i - 4]? = some 46 := by rw [List.getElem?_drop, show 4 + (i - 4) = i by omega]; exact d2
    have e2 := split_at e1 (fun k hk hq => d3 (4 + k) (by omega) (by omega) (by rw [List.getElem?_drop] at hq; exact hq))
    rw [hsd] at e2
    obtain ⟨f1, f2⟩ := split_uniq e2.1 (dec_no_dot n) e2.2
    have k1 : (s.take i).drop 4 = decDigits n := by
      have h9 : (s.take i).drop 4 = (s.drop 4).take (i - 4) := by rw [List.drop_take]
      rw [h9, hsd]
      exact f1.symm
    have k2 : s.drop (i + 1) = decDigits v := by
      have := congrArg (List.drop (i - 4 + 1)) hsd
      rw [List.drop_drop, show 4 + (i - 4 + 1) = i + 1 by omega] at this
      rw [this]
      exact f2.symm
    rw [k1, k2, valT_dec g3, valT_dec g4]
theorem cand_none {s : List UInt8} {m : Nm} (h : m.right = true) (ht : textB m.s m.l m.n m.v = s) (hi : s.take 4 = ipnP) (hd : ∀ j, 4 ≤ j → s[j]? ≠ some 46) : False := by
  obtain ⟨x, l, n, v⟩ := m
  rcases right_cases h with ⟨g1, g2, g3, _⟩ | ⟨g1, g2, g3, g4⟩ <;> simp only at g1 ht
  · subst g1
    have ht' : textB 1 l n v = s := ht
    rw [textB_one] at ht'
    subst ht'
    exact absurd hi (by simp [dtnP, ipnP])
  · subst g1
    have ht' : textB 2 l n v = s := ht
    rw [textB_two] at ht'
    refine hd (4 + (decDigits n).length) (by omega) ?_
    rw [← ht', List.getElem?_append_right (show ipnP.length ≤ _ by show 4 ≤ _; omega), show 4 + (decDigits n).length - ipnP.length = (decDigits n).length by show 4 + _ - 4 = _; omega, List.getElem?_append_right (Nat.le_refl _), Nat.sub_self]
    rfl
end Go.Proofs.YtlbpodddokhmaaaDoor.Fmt
