/-
  The walks of the reference's Right, Seal, Open.
  Conditions: named at each.
-/
import Derived.Test.YtnnoimikoddbcaaRef08h
namespace Go.Proofs.Ytnnoimikoddbcaa.Ref08
open Go.ChangeShapes Go.WideShapes Go.ChangeAt Go.RowKit Go.Deep Go.Proofs.Ytnnoimikoddbcaa.Gf
theorem Right_any (k n : List UInt8) (w : World) : Calls Try.prog 35 #[.string (B k), .string (B n)] w fun e w' => e = .returned (.bool (decide (sealOk k n))) ∧ Below w.heap.size w w' := by
  have hk : ((((k.length : Int) == 16) = true) ∧ keyOk k) ∨ ((((k.length : Int) == 16) = false) ∧ (((k.length : Int) == 32) = true) ∧ keyOk k) ∨ ((((k.length : Int) == 16) = false) ∧ (((k.length : Int) == 32) = false) ∧ ¬ keyOk k) := by
    by_cases h1 : k.length = 16
    · exact .inl ⟨by simp [h1], .inl h1⟩
    · by_cases h2 : k.length = 32
      · exact .inr (.inl ⟨by simp [h2], by simp [h2], .inr h2⟩)
      · exact .inr (.inr ⟨by simp; omega, by simp; omega, fun h => h.elim h1 h2⟩)
  have hn : ((n.length : Int) < 8 ∧ n.length < 8) ∨ (8 ≤ (n.length : Int) ∧ (n.length : Int) ≤ 16 ∧ 8 ≤ n.length ∧ n.length ≤ 16) ∨ (8 ≤ (n.length : Int) ∧ 16 < (n.length : Int) ∧ 16 < n.length) := by omega
  rcases hk with ⟨hk1, hk2⟩ | ⟨hk1, hk3, hk2⟩ | ⟨hk1, hk3, hk2⟩
  all_goals
    rcases hn with ⟨hn1, hn2⟩ | ⟨hn1, hn3, hn2⟩ | ⟨hn1, hn3, hn2⟩
    all_goals
      first
        | (have hd : decide (sealOk k n) = true := decide_eq_true ⟨hk2, hn2.1, hn2.2⟩
           rw [hd])
        | (have hd : decide (sealOk k n) = false := decide_eq_false fun h => by first | exact hk2 h.1 | (have h1 := h.2.1; have h2 := h.2.2; omega)
           rw [hd])
      have HK := Lib.hid hk2
      clear hk2 hn2 hd
      go_enter Try.func35, Try.ntmps35
      go_wp2
      go_ret
      exact ⟨by first | rfl | (simp; done) | (simp; omega), Below.refl _ _⟩
theorem Seal_any (k n a t : List UInt8) (w : World) (hk : sealOk k n) (ha : a.length ≤ 1000000) (ht : t.length ≤ 1000000) : Calls Try.prog 21 #[.string (B k), .string (B n), .string (B a), .string (B t)] w fun e w' => e = .returned (.tuple #[.string (B (sealB k n t)), .string (B (tagB k (firstB k n) a (sealB k n t))), .int .i64 0]) ∧ Below w.heap.size w w' := by
  have HR := Lib.hid (Right_any k n w)
  rw [decide_eq_true hk] at HR
  have HT := Lib.hid (show ∀ W, Calls Try.prog 36 #[.string (B k), .string (B n), .string (B a), .string (B t), .bool false] W fun e w' => e = .returned (.tuple #[.string (B (sealB k n t)), .string (B (tagB k (firstB k n) a (sealB k n t)))]) ∧ Below W.heap.size W w' from fun W => Turn_any k n a t false W hk.1 hk.2.1 hk.2.2 ha ht)
  clear hk
  generalize tagB k (firstB k n) a (sealB k n t) = tg at *
  generalize sealB k n t = s at *
  go_enter Try.func21, Try.ntmps21
  go_wp2_with fail
  refine Calls.ext HR.out fun u1 => ?_
  go_wp2_with fail
  refine Calls.ext (HT.out _) fun u2 => ?_
  go_wp2
  exact bodyPost_ret (v := .tuple #[.string (B s), .string (B tg), .int .i64 0]) (by simp [results, Try.results21, go_sem]) rfl ⟨rfl, by ((repeat' (with_reducible first | exact Below.refl _ _ | assumption | refine Below.drew ?_ | refine below_drewN ?_ _ | refine Below.setCell ?_ ?_ _ | refine Below.alloc ?_ ?_ _ | refine Below.ext ?_ ?_ _ | refine Below.trans ?_ (Below.mono ‹_› ?_))) <;> first | omega | (simp; done) | (simp; omega))⟩
theorem Seal_none (k n a t : List UInt8) (w : World) (hk : ¬ sealOk k n) : Calls Try.prog 21 #[.string (B k), .string (B n), .string (B a), .string (B t)] w fun e w' => e = .returned (.tuple #[.string (B []), .string (B []), .int .i64 1]) ∧ Below w.heap.size w w' := by
  have HR := Lib.hid (Right_any k n w)
  rw [decide_eq_false hk] at HR
  clear hk
  go_enter Try.func21, Try.ntmps21
  go_wp2_with fail
  refine Calls.ext HR.out fun u1 => ?_
  go_wp2
  exact bodyPost_ret (v := .tuple #[.string ⟨#[]⟩, .string ⟨#[]⟩, .int .i64 1]) (by simp [results, Try.results21, go_sem]) rfl ⟨rfl, by ((repeat' (with_reducible first | exact Below.refl _ _ | assumption | refine Below.drew ?_ | refine below_drewN ?_ _ | refine Below.setCell ?_ ?_ _ | refine Below.alloc ?_ ?_ _ | refine Below.ext ?_ ?_ _ | refine Below.trans ?_ (Below.mono ‹_› ?_))) <;> first | omega | (simp; done) | (simp; omega))⟩
/-- What Open answers: the text, and the error. -/
def openS (k n a t tag : List UInt8) : List UInt8 := if sealOk k n ∧ tagB k (firstB k n) a t = tag then streamB k (firstB k n) t else []
def openE (k n a t tag : List UInt8) : Nat := if sealOk k n then if tagB k (firstB k n) a t = tag then 0 else 7 else 1
theorem Open_any (k n a t tag : List UInt8) (w : World) (ha : a.length ≤ 1000000) (ht : t.length ≤ 1000000) : Calls Try.prog 23 #[.string (B k), .string (B n), .string (B a), .string (B t), .string (B tag)] w fun e w' => e = .returned (.tuple #[.string (B (openS k n a t tag)), .int .i64 ((openE k n a t tag : Nat) : Int)]) ∧ Below w.heap.size w w' := by
  have HR := Lib.hid (Right_any k n w)
  by_cases hk : sealOk k n
  · rw [decide_eq_true hk] at HR
    have HT := Lib.hid (show ∀ W, Calls Try.prog 36 #[.string (B k), .string (B n), .string (B a), .string (B t), .bool true] W fun e w' => e = .returned (.tuple #[.string (B (streamB k (firstB k n) t)), .string (B (tagB k (firstB k n) a t))]) ∧ Below W.heap.size W w' from fun W => Turn_any k n a t true W hk.1 hk.2.1 hk.2.2 ha ht)
    by_cases he : tagB k (firstB k n) a t = tag
    · have e1 : openS k n a t tag = streamB k (firstB k n) t := by rw [openS, if_pos ⟨hk, he⟩]
      have e2 : openE k n a t tag = 0 := by rw [openE, if_pos hk, if_pos he]
      rw [e1, e2, ← he]
      clear hk he e1 e2
      generalize tagB k (firstB k n) a t = tg at *
      generalize streamB k (firstB k n) t = s at *
      go_enter Try.func23, Try.ntmps23
      go_wp2_with fail
      refine Calls.ext HR.out fun u1 => ?_
      go_wp2_with fail
      refine Calls.ext (HT.out _) fun u2 => ?_
      go_wp2
      exact bodyPost_ret (v := .tuple #[.string (B s), .int .i64 0]) (by simp [results, Try.results23, go_sem]) rfl ⟨rfl, by ((repeat' (with_reducible first | exact Below.refl _ _ | assumption | refine Below.drew ?_ | refine below_drewN ?_ _ | refine Below.setCell ?_ ?_ _ | refine Below.alloc ?_ ?_ _ | refine Below.ext ?_ ?_ _ | refine Below.trans ?_ (Below.mono ‹_› ?_))) <;> first | omega | (simp; done) | (simp; omega))⟩
    · have e1 : openS k n a t tag = [] := by rw [openS, if_neg fun h => he h.2]
      have e2 : openE k n a t tag = 7 := by rw [openE, if_pos hk, if_neg he]
      rw [e1, e2]
      clear hk e1 e2
      generalize tagB k (firstB k n) a t = tg at *
      generalize streamB k (firstB k n) t = s at *
      have hne : (tg == tag) = false := by simpa using he
      clear he
      go_enter Try.func23, Try.ntmps23
      go_wp2_with fail
      refine Calls.ext HR.out fun u1 => ?_
      go_wp2_with fail
      refine Calls.ext (HT.out _) fun u2 => ?_
      go_wp2
      exact bodyPost_ret (v := .tuple #[.string ⟨#[]⟩, .int .i64 7]) (by simp [results, Try.results23, go_sem]) rfl ⟨rfl, by ((repeat' (with_reducible first | exact Below.refl _ _ | assumption | refine Below.drew ?_ | refine below_drewN ?_ _ | refine Below.setCell ?_ ?_ _ | refine Below.alloc ?_ ?_ _ | refine Below.ext ?_ ?_ _ | refine Below.trans ?_ (Below.mono ‹_› ?_))) <;> first | omega | (simp; done) | (simp; omega))⟩
  · have e1 : openS k n a t tag = [] := by rw [openS, if_neg fun h => hk h.1]
    have e2 : openE k n a t tag = 1 := by rw [openE, if_neg hk]
    rw [e1, e2]
    rw [decide_eq_false hk] at HR
    clear hk e1 e2
    go_enter Try.func23, Try.ntmps23
    go_wp2_with fail
    refine Calls.ext HR.out fun u1 => ?_
    go_wp2
    exact bodyPost_ret (v := .tuple #[.string ⟨#[]⟩, .int .i64 1]) (by simp [results, Try.results23, go_sem]) rfl ⟨rfl, by ((repeat' (with_reducible first | exact Below.refl _ _ | assumption | refine Below.drew ?_ | refine below_drewN ?_ _ | refine Below.setCell ?_ ?_ _ | refine Below.alloc ?_ ?_ _ | refine Below.ext ?_ ?_ _ | refine Below.trans ?_ (Below.mono ‹_› ?_))) <;> first | omega | (simp; done) | (simp; omega))⟩
end Go.Proofs.Ytnnoimikoddbcaa.Ref08
