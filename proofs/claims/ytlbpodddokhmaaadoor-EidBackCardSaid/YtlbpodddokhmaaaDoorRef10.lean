/-
  The walks of the reference for names: Few, Slash, letter, Right; and the plain law that its Right is the program's.
  Conditions: a string is no longer than the model lets it be.
-/
import Derived.Test.YtlbpodddokhmaaaDoorEid3
namespace Go.Proofs.YtlbpodddokhmaaaDoor.Eid
open Go.ChangeShapes Go.WideShapes Go.ChangeAt Go.RowKit

def sl : List UInt8 → Nat → Nat
  | [], _ => 0
  | c :: r, i => if c.toNat = 47 then i else sl r (i + 1)
theorem Slash_any (l : List UInt8) (w : World) (hl : l.length ≤ maxLen) : Calls Tryd.prog 19 #[.string (B l)] w fun e w' => e = .returned (.int .i64 (sl (l.drop 2) 2)) ∧ w = w' := by
  unfold maxLen at hl
  generalize hS : sl (l.drop 2) 2 = S
  have HS := Lib.hid hS
  clear hS
  go_enter Tryd.func19, Tryd.ntmps19
  go_wp2
  go_loop [3] (fun i => ∃ k : Nat, 2 ≤ k ∧ i = .int .i64 k ∧ S = sl (l.drop k) k) (fun i => l.length - (intOf i).toNat)
  case atStart => exact ⟨2, Nat.le_refl _, rfl, HS.out.symm⟩
  case round =>
    obtain ⟨k, hk, rfl, hv⟩ := hrel
    by_cases hlt : k < l.length
    · rw [List.drop_eq_getElem_cons hlt] at hv
      have HV := Lib.hid hv
      clear hv
      cases h47 : ((l[k].toNat : Int) == 47)
      · have e : S = sl (l.drop (k + 1)) (k + 1) := by
          rw [HV.out]
          conv => lhs; unfold sl
          rw [if_neg (by rw [beq_eq_false_iff_ne] at h47; omega)]
        have HE := Lib.hid e
        clear e
        go_wp2
        go_round
        case rel => exact ⟨k + 1, by omega, by go_num, HE.out⟩
        case measure => simp [intOf]; omega
      · have e : S = k := by
          rw [HV.out]
          unfold sl
          rw [if_pos (by rw [beq_iff_eq] at h47; omega)]
        have HE := Lib.hid e
        clear e
        go_wp2
        go_ret
        exact ⟨by rw [HE.out]; rfl, rfl⟩
    · have e : S = 0 := by rw [hv, List.drop_of_length_le (by omega)]; rfl
      have HE := Lib.hid e
      clear e hv
      go_wp2
      go_ret
      exact ⟨by rw [HE.out]; rfl, rfl⟩

/-- The bytes of a node's name. -/
def letters : List UInt8 := [97, 98, 99, 100, 101, 102, 103, 104, 105, 106, 107, 108, 109, 110, 111, 112, 113, 114, 115, 116, 117, 118, 119, 120, 121, 122, 48, 49, 50, 51, 52, 53, 54, 55, 56, 57, 45, 46]
theorem letters_any : ∀ c : Fin 256, letters.any (fun d => d.toNat == c.val) = nb c.val := by decide +kernel
theorem letter_any (c : UInt8) (w : World) : Calls Tryd.prog 20 #[.int .u8 c.toNat] w fun e w' => e = .returned (.bool (nb c.toNat)) ∧ w = w' := by
  have hc := letters_any ⟨c.toNat, c.toNat_lt⟩
  simp only at hc
  have hB : (⟨#[97, 98, 99, 100, 101, 102, 103, 104, 105, 106, 107, 108, 109, 110, 111, 112, 113, 114, 115, 116, 117, 118, 119, 120, 121, 122, 48, 49, 50, 51, 52, 53, 54, 55, 56, 57, 45, 46]⟩ : ByteArray) = B letters := rfl
  have hl : letters.length = 38 := rfl
  generalize letters = L at *
  generalize c.toNat = x at *
  have HC := Lib.hid hc
  clear hc
  go_enter Tryd.func20, Tryd.ntmps20
  go_wp2
  go_loop [3] (fun i => ∃ k : Nat, k ≤ 38 ∧ i = .int .i64 k ∧ nb x = (L.drop k).any (fun d => d.toNat == x)) (fun i => 38 - (intOf i).toNat)
  case atStart => exact ⟨0, by omega, rfl, HC.out.symm⟩
  case round =>
    obtain ⟨k, hk, rfl, hv⟩ := hrel
    by_cases hlt : k < L.length
    · rw [List.drop_eq_getElem_cons hlt] at hv
      have HV := Lib.hid hv
      clear hv
      have h38 : k < 38 := by omega
      cases hx : ((L[k].toNat : Int) == (x : Int))
      · have e : nb x = (L.drop (k + 1)).any (fun d => d.toNat == x) := by
          rw [HV.out, List.any_cons]
          rw [beq_eq_false_iff_ne] at hx
          have : (L[k].toNat == x) = false := by rw [beq_eq_false_iff_ne]; omega
          rw [this, Bool.false_or]
        have HE := Lib.hid e
        clear e
        go_wp2
        go_round
        case rel => exact ⟨k + 1, by omega, by go_num, HE.out⟩
        case measure => simp [intOf]; omega
      · have e : nb x = true := by
          rw [HV.out, List.any_cons]
          rw [beq_iff_eq] at hx
          have : (L[k].toNat == x) = true := by rw [beq_iff_eq]; omega
          rw [this, Bool.true_or]
        have HE := Lib.hid e
        clear e
        go_wp2
        go_ret
        exact ⟨by rw [HE.out]; rfl, rfl⟩
    · have e : nb x = false := by rw [hv, List.drop_of_length_le (by omega)]; rfl
      have HE := Lib.hid e
      clear e hv
      have h38 : ¬ k < 38 := by omega
      go_wp2
      go_ret
      exact ⟨by rw [HE.out]; rfl, rfl⟩

/-- From the i-th byte on: before the third stroke, at k, a node's bytes; behind it visible ones. -/
def chk (k : Nat) : List UInt8 → Nat → Bool
  | [], _ => true
  | c :: r, i => decide ((i < k → nb c.toNat = true) ∧ (k < i → visible c = true)) && chk k r (i + 1)
theorem chk_behind (k : Nat) : ∀ (l : List UInt8) (i : Nat), k < i → chk k l i = l.all visible
  | [], _, _ => rfl
  | c :: r, i, h => by
    unfold chk
    rw [chk_behind k r (i + 1) (by omega), List.all_cons]
    congr 1
    rw [Bool.eq_iff_iff, decide_eq_true_eq]
    exact ⟨fun x => x.2 h, fun x => ⟨fun y => by omega, fun _ => x⟩⟩
theorem sl_ge : ∀ (l : List UInt8) (i : Nat), sl l i = 0 ∨ i ≤ sl l i
  | [], i => Or.inl rfl
  | c :: r, i => by
    unfold sl
    split
    · exact Or.inr (Nat.le_refl _)
    · rcases sl_ge r (i + 1) with h | h
      · exact Or.inl h
      · exact Or.inr (by omega)
theorem nb47 : nb 47 = false := by decide
theorem scan_sl : ∀ (m : List UInt8) (i : Nat), (scan m i != 0 && (m.drop (scan m i - (i + 2))).all visible) = (decide (sl m (i + 2) ≠ 0 ∧ (i = 0 → sl m (i + 2) ≠ 2)) && chk (sl m (i + 2)) m (i + 2))
    ∧ (scan m i ≠ 0 → scan m i = sl m (i + 2) + 1 ∧ i + 2 < scan m i)
  | [], i => by simp [scan, sl]
  | c :: r, i => by
    obtain ⟨ih1, ih2⟩ := scan_sl r (i + 1)
    by_cases h47 : c.toNat = 47
    · have hn : nb c.toNat = false := by rw [h47]; decide
      have e1 : sl (c :: r) (i + 2) = i + 2 := by unfold sl; rw [if_pos h47]
      by_cases h0 : 0 < i
      · have e2 : scan (c :: r) i = i + 3 := by unfold scan; rw [if_neg (by simp [hn]), if_pos ⟨h47, h0⟩]
        rw [e1, e2]
        refine ⟨?_, fun _ => ⟨by omega, by omega⟩⟩
        rw [show i + 3 - (i + 2) = 1 by omega, List.drop_one, List.tail_cons]
        unfold chk
        rw [chk_behind (i + 2) r (i + 2 + 1) (by omega)]
        simp; omega
      · have e2 : scan (c :: r) i = 0 := by unfold scan; rw [if_neg (by simp [hn]), if_neg (by omega)]
        rw [e1, e2]
        refine ⟨?_, fun h => absurd rfl h⟩
        obtain rfl : i = 0 := by omega
        simp
    · have e1 : sl (c :: r) (i + 2) = sl r (i + 1 + 2) := by
        conv => lhs; unfold sl
        rw [if_neg h47]
      have hge := sl_ge r (i + 1 + 2)
      cases hn : nb c.toNat
      · have e2 : scan (c :: r) i = 0 := by unfold scan; rw [if_neg (by simp [hn]), if_neg (by omega)]
        rw [e1, e2]
        refine ⟨?_, fun h => absurd rfl h⟩
        rcases hge with h | h
        · simp [h]
        · unfold chk
          simp [hn]
          intro _ _ h'
          omega
      · have e2 : scan (c :: r) i = scan r (i + 1) := by
          conv => lhs; unfold scan
          rw [if_pos hn]
        rw [e1, e2]
        refine ⟨?_, fun h => ⟨(ih2 h).1, by have := (ih2 h).2; omega⟩⟩
        by_cases hz : scan r (i + 1) = 0
        · rw [hz] at ih1 ⊢
          have e3 : (decide (sl r (i + 1 + 2) ≠ 0 ∧ (i + 1 = 0 → sl r (i + 1 + 2) ≠ 2)) && chk (sl r (i + 1 + 2)) r (i + 1 + 2)) = false := by rw [← ih1]; simp
          rcases hge with h | h
          · simp [h]
          · have e4 : chk (sl r (i + 1 + 2)) r (i + 1 + 2) = false := by
              have : decide (sl r (i + 1 + 2) ≠ 0 ∧ (i + 1 = 0 → sl r (i + 1 + 2) ≠ 2)) = true := by rw [decide_eq_true_eq]; omega
              rw [this, Bool.true_and] at e3
              exact e3
            unfold chk
            rw [show i + 2 + 1 = i + 1 + 2 by omega, e4]
            simp
        · obtain ⟨h1, h2⟩ := ih2 hz
          have e3 : (scan r (i + 1) - (i + 2)) = (scan r (i + 1) - (i + 1 + 2)) + 1 := by omega
          rw [e3, List.drop_succ_cons]
          unfold chk
          rw [show i + 2 + 1 = i + 1 + 2 by omega]
          rw [ih1]
          have d1 : decide (sl r (i + 1 + 2) ≠ 0 ∧ (i + 1 = 0 → sl r (i + 1 + 2) ≠ 2)) = true := by rw [decide_eq_true_eq]; omega
          have d2 : decide (sl r (i + 1 + 2) ≠ 0 ∧ (i = 0 → sl r (i + 1 + 2) ≠ 2)) = true := by rw [decide_eq_true_eq]; omega
          have d3 : decide ((i + 2 < sl r (i + 1 + 2) → nb c.toNat = true) ∧ (sl r (i + 1 + 2) < i + 2 → visible c = true)) = true := by
            rw [decide_eq_true_eq]
            exact ⟨fun _ => hn, fun h => by omega⟩
          rw [d1, d2, d3]
          simp
/-- What the reference asks of a Name of the scheme 1. -/
def refNamed (l : List UInt8) : Bool :=
  l == [110, 111, 110, 101] || (decide (3 ≤ sl (l.drop 2) 2) && l.take 2 == [47, 47] && chk (sl (l.drop 2) 2) (l.drop 2) 2)
theorem refNamed_eq (l : List UInt8) (h60 : l.length ≤ 60) : refNamed l = namedB l := by
  unfold refNamed namedB
  congr 1
  have hge := sl_ge (l.drop 2) 2
  unfold nodeN
  by_cases hp : pre [47, 47] l = true
  · have ht : (l.take 2 == [47, 47]) = true := by
      have := pre_of_take l [47, 47]
      rw [hp] at this
      simp only [Bool.and_eq_true] at this
      exact this.2
    rw [if_pos ⟨hp, h60⟩, ht]
    obtain ⟨h1, h2⟩ := scan_sl (l.drop 2) 0
    simp only [Nat.zero_add] at h1 h2
    have e : (decide (3 ≤ sl (l.drop 2) 2)) = decide (sl (l.drop 2) 2 ≠ 0 ∧ (True → sl (l.drop 2) 2 ≠ 2)) := by
      rw [Bool.eq_iff_iff, decide_eq_true_eq, decide_eq_true_eq]
      simp only [true_implies]
      omega
    rw [Bool.and_true, e, ← h1, List.drop_drop]
    by_cases hz : scan (l.drop 2) 0 = 0
    · simp [hz]
    · have := (h2 hz).2
      rw [show 2 + (scan (l.drop 2) 0 - 2) = scan (l.drop 2) 0 by omega]
  · rw [if_neg (fun h => hp h.1)]
    have ht : (decide (3 ≤ sl (l.drop 2) 2) && (l.take 2 == [47, 47])) = false := by
      have := pre_of_take l [47, 47]
      rw [Bool.not_eq_true] at hp
      rw [hp] at this
      rcases hge with h | h
      · simp [h]
      · by_cases h2 : 2 ≤ l.length
        · simp [h2] at this
          simp [this]
        · have : sl (l.drop 2) 2 = 0 := by rw [List.drop_of_length_le (by omega)]; rfl
          simp [this]
    rw [ht]
    rfl

theorem namedB_long (l : List UInt8) (h : 60 < l.length) : namedB l = false := by
  unfold namedB nodeN
  rw [if_neg (by omega)]
  have : (l == [110, 111, 110, 101]) = false := by
    rw [beq_eq_false_iff_ne]
    intro h'
    rw [h'] at h
    simp at h
  rw [this]; rfl
theorem rRight_2 (l : List UInt8) (n v : Int) (w : World) : Calls Tryd.prog 8 #[.agg #[.int .i64 2, .string (B l), .int .u64 n, .int .u64 v]] w fun e w' => e = .returned (.bool (rightB 2 l n v)) ∧ Below w.heap.size w w' := by
  go_enter Tryd.func8, Tryd.ntmps8
  go_wp2
  all_goals
    go_ret
    exact ⟨ret_bool (by simp [rightB, *]; try omega), by ((repeat' (with_reducible first | exact Below.refl _ _ | assumption | refine Below.drew ?_ | refine below_drewN ?_ _ | refine Below.setCell ?_ ?_ _ | refine Below.alloc ?_ ?_ _ | refine Below.ext ?_ ?_ _ | refine Below.trans ?_ (Below.mono ‹_› ?_))) <;> first | omega | (simp; done) | (simp; omega))⟩
theorem rRight_not (s : Int) (l : List UInt8) (n v : Int) (w : World) (h1 : (s == 1) = false) (h2 : (s == 2) = false) : Calls Tryd.prog 8 #[.agg #[.int .i64 s, .string (B l), .int .u64 n, .int .u64 v]] w fun e w' => e = .returned (.bool false) ∧ Below w.heap.size w w' := by
  have h3 : (s != 1) = true := by simp at h1 ⊢; exact h1
  go_enter Tryd.func8, Tryd.ntmps8
  go_wp2
  go_ret
  exact ⟨rfl, by ((repeat' (with_reducible first | exact Below.refl _ _ | assumption | refine Below.drew ?_ | refine below_drewN ?_ _ | refine Below.setCell ?_ ?_ _ | refine Below.alloc ?_ ?_ _ | refine Below.ext ?_ ?_ _ | refine Below.trans ?_ (Below.mono ‹_› ?_))) <;> first | omega | (simp; done) | (simp; omega))⟩
theorem rRight_nv (l : List UInt8) (n v : Int) (w : World) (h : ¬ (n = 0 ∧ v = 0 ∧ l.length ≤ 60)) : Calls Tryd.prog 8 #[.agg #[.int .i64 1, .string (B l), .int .u64 n, .int .u64 v]] w fun e w' => e = .returned (.bool false) ∧ Below w.heap.size w w' := by
  go_enter Tryd.func8, Tryd.ntmps8
  cases hn : (n != 0)
  · cases hv : (v != 0)
    · have h6 : ¬ l.length ≤ 60 := by simp at hn hv; omega
      go_wp2
      go_ret
      exact ⟨rfl, by ((repeat' (with_reducible first | exact Below.refl _ _ | assumption | refine Below.drew ?_ | refine below_drewN ?_ _ | refine Below.setCell ?_ ?_ _ | refine Below.alloc ?_ ?_ _ | refine Below.ext ?_ ?_ _ | refine Below.trans ?_ (Below.mono ‹_› ?_))) <;> first | omega | (simp; done) | (simp; omega))⟩
    · go_wp2
      go_ret
      exact ⟨rfl, by ((repeat' (with_reducible first | exact Below.refl _ _ | assumption | refine Below.drew ?_ | refine below_drewN ?_ _ | refine Below.setCell ?_ ?_ _ | refine Below.alloc ?_ ?_ _ | refine Below.ext ?_ ?_ _ | refine Below.trans ?_ (Below.mono ‹_› ?_))) <;> first | omega | (simp; done) | (simp; omega))⟩
  · go_wp2
    go_ret
    exact ⟨rfl, by ((repeat' (with_reducible first | exact Below.refl _ _ | assumption | refine Below.drew ?_ | refine below_drewN ?_ _ | refine Below.setCell ?_ ?_ _ | refine Below.alloc ?_ ?_ _ | refine Below.ext ?_ ?_ _ | refine Below.trans ?_ (Below.mono ‹_› ?_))) <;> first | omega | (simp; done) | (simp; omega))⟩
theorem rRight_none (w : World) : Calls Tryd.prog 8 #[.agg #[.int .i64 1, .string (B [110, 111, 110, 101]), .int .u64 0, .int .u64 0]] w fun e w' => e = .returned (.bool true) ∧ Below w.heap.size w w' := by
  go_enter Tryd.func8, Tryd.ntmps8
  go_wp2
  go_ret
  exact ⟨rfl, by ((repeat' (with_reducible first | exact Below.refl _ _ | assumption | refine Below.drew ?_ | refine below_drewN ?_ _ | refine Below.setCell ?_ ?_ _ | refine Below.alloc ?_ ?_ _ | refine Below.ext ?_ ?_ _ | refine Below.trans ?_ (Below.mono ‹_› ?_))) <;> first | omega | (simp; done) | (simp; omega))⟩
set_option maxRecDepth 100000 in
theorem rRight_1 (l : List UInt8) (w : World) (h60 : l.length ≤ 60) (hne : (l == [110, 111, 110, 101]) = false) : Calls Tryd.prog 8 #[.agg #[.int .i64 1, .string (B l), .int .u64 0, .int .u64 0]] w fun e w' => e = .returned (.bool (refNamed l)) ∧ Below w.heap.size w w' := by
  have hr : refNamed l = (decide (3 ≤ sl (l.drop 2) 2) && l.take 2 == [47, 47] && chk (sl (l.drop 2) 2) (l.drop 2) 2) := by unfold refNamed; rw [hne]; rfl
  have HR := Lib.hid hr
  have hge := sl_ge (l.drop 2) 2
  clear hr
  go_enter Tryd.func8, Tryd.ntmps8
  go_wp2_with fail
  refine (Slash_any _ _ (by unfold maxLen; omega)).mono ?_; rintro e w1 ⟨rfl, rfl⟩
  generalize hk : sl (l.drop 2) 2 = k at *
  have HK := Lib.hid hk
  by_cases h3 : k < 3
  · clear hk
    go_wp2
    go_ret
    exact ⟨by rw [HR.out]; have : decide (3 ≤ k) = false := by simp; omega
              rw [this]; rfl, by ((repeat' (with_reducible first | exact Below.refl _ _ | assumption | refine Below.drew ?_ | refine below_drewN ?_ _ | refine Below.setCell ?_ ?_ _ | refine Below.alloc ?_ ?_ _ | refine Below.ext ?_ ?_ _ | refine Below.trans ?_ (Below.mono ‹_› ?_))) <;> first | omega | (simp; done) | (simp; omega))⟩
  · have h2 : 2 ≤ l.length := by
      rcases Nat.lt_or_ge l.length 2 with h | h
      · rw [List.drop_of_length_le (by omega)] at hk
        simp [sl] at hk
        omega
      · exact h
    clear hk
    cases ht : (l.take 2 == [47, 47])
    · have HT := Lib.hid ht
      go_wp2
      go_ret
      exact ⟨by rw [HR.out, HT.out]; simp, by ((repeat' (with_reducible first | exact Below.refl _ _ | assumption | refine Below.drew ?_ | refine below_drewN ?_ _ | refine Below.setCell ?_ ?_ _ | refine Below.alloc ?_ ?_ _ | refine Below.ext ?_ ?_ _ | refine Below.trans ?_ (Below.mono ‹_› ?_))) <;> first | omega | (simp; done) | (simp; omega))⟩
    · have hr2 : refNamed l = chk k (l.drop 2) 2 := by
        rw [HR.out, ht]
        have : decide (3 ≤ k) = true := by simp; omega
        rw [this]; rfl
      have HR2 := Lib.hid hr2
      clear hr2
      go_wp2
      clear ht
      go_loop [4] (fun i => ∃ j : Nat, 2 ≤ j ∧ i = .int .i64 j ∧ refNamed l = chk k (l.drop j) j) (fun i => l.length - (intOf i).toNat)
      case atStart => exact ⟨2, Nat.le_refl _, rfl, HR2.out⟩
      case round =>
        obtain ⟨j, hj, rfl, hv⟩ := hrel
        by_cases hlt : j < l.length
        · rw [List.drop_eq_getElem_cons hlt] at hv
          unfold chk at hv
          have HV := Lib.hid hv
          clear hv
          by_cases hjk : j < k
          · cases hn : nb l[j].toNat
            · have e : refNamed l = false := by rw [HV.out]; simp [hjk, hn]
              have HE := Lib.hid e
              have HN := Lib.hid hn
              clear e hn
              go_wp2_with (go_at_call 20; refine (letter_any _ _).mono ?_; rw [HN.out]; rintro e w' ⟨rfl, rfl⟩)
              go_ret
              exact ⟨by rw [HE.out]; rfl, by ((repeat' (with_reducible first | exact Below.refl _ _ | assumption | refine Below.drew ?_ | refine below_drewN ?_ _ | refine Below.setCell ?_ ?_ _ | refine Below.alloc ?_ ?_ _ | refine Below.ext ?_ ?_ _ | refine Below.trans ?_ (Below.mono ‹_› ?_))) <;> first | omega | (simp; done) | (simp; omega))⟩
            · have e : refNamed l = chk k (l.drop (j + 1)) (j + 1) := by rw [HV.out]; simp [hjk, hn]; omega
              have HE := Lib.hid e
              have HN := Lib.hid hn
              clear e hn
              go_wp2_with (go_at_call 20; refine (letter_any _ _).mono ?_; rw [HN.out]; rintro e w' ⟨rfl, rfl⟩)
              go_round
              case rel => exact ⟨j + 1, by omega, by go_num, HE.out⟩
              case measure => simp [intOf]; omega
          · by_cases hkj : k < j
            · by_cases h33 : l[j].toNat < 33
              · have e : refNamed l = false := by rw [HV.out]; simp [hkj, visible]; omega
                have HE := Lib.hid e
                clear e
                go_wp2
                go_ret
                exact ⟨by rw [HE.out]; rfl, by ((repeat' (with_reducible first | exact Below.refl _ _ | assumption | refine Below.drew ?_ | refine below_drewN ?_ _ | refine Below.setCell ?_ ?_ _ | refine Below.alloc ?_ ?_ _ | refine Below.ext ?_ ?_ _ | refine Below.trans ?_ (Below.mono ‹_› ?_))) <;> first | omega | (simp; done) | (simp; omega))⟩
              · by_cases h126 : 126 < l[j].toNat
                · have e : refNamed l = false := by rw [HV.out]; simp [hkj, visible]; omega
                  have HE := Lib.hid e
                  clear e
                  go_wp2
                  go_ret
                  exact ⟨by rw [HE.out]; rfl, by ((repeat' (with_reducible first | exact Below.refl _ _ | assumption | refine Below.drew ?_ | refine below_drewN ?_ _ | refine Below.setCell ?_ ?_ _ | refine Below.alloc ?_ ?_ _ | refine Below.ext ?_ ?_ _ | refine Below.trans ?_ (Below.mono ‹_› ?_))) <;> first | omega | (simp; done) | (simp; omega))⟩
                · have e : refNamed l = chk k (l.drop (j + 1)) (j + 1) := by rw [HV.out]; simp [hkj, visible]; omega
                  have HE := Lib.hid e
                  clear e
                  go_wp2
                  go_round
                  case rel => exact ⟨j + 1, by omega, by go_num, HE.out⟩
                  case measure => simp [intOf]; omega
            · have e : refNamed l = chk k (l.drop (j + 1)) (j + 1) := by rw [HV.out]; simp; omega
              have HE := Lib.hid e
              clear e
              go_wp2
              go_round
              case rel => exact ⟨j + 1, by omega, by go_num, HE.out⟩
              case measure => simp [intOf]; omega
        · have e : refNamed l = true := by rw [hv, List.drop_of_length_le (by omega)]; rfl
          have HE := Lib.hid e
          clear e hv
          go_wp2
          go_ret
          exact ⟨by rw [HE.out]; rfl, by ((repeat' (with_reducible first | exact Below.refl _ _ | assumption | refine Below.drew ?_ | refine below_drewN ?_ _ | refine Below.setCell ?_ ?_ _ | refine Below.alloc ?_ ?_ _ | refine Below.ext ?_ ?_ _ | refine Below.trans ?_ (Below.mono ‹_› ?_))) <;> first | omega | (simp; done) | (simp; omega))⟩
end Go.Proofs.YtlbpodddokhmaaaDoor.Eid
