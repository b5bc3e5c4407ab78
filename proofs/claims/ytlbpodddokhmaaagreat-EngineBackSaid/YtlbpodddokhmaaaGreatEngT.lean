/-
  Which keys and nonces may sign and seal: the program's and the reference's walks, for any variant; what is refused; one operation's lengths.
  Conditions: none.
-/
import Derived.Test.YtlbpodddokhmaaaGreatEngS
import Derived.Test.YtlbpodddokhmaaaGreatEngZ
namespace Go.Proofs.YtlbpodddokhmaaaGreat.EngT
open Go.ChangeShapes Go.WideShapes Go.ChangeAt Go.RowKit Go.Deep Go.Proofs.YtlbpodddokhmaaaGreat.Eng Go.Proofs.YtlbpodddokhmaaaGreat.EngS
open Go.Proofs.YtlbpodddokhmaaaGreat.EngX (Opp few1 few_cases)
theorem signs_cases (vr : Int) (key : List UInt8) : (signsB vr key = true ∧ 0 < Eng.bits vr ∧ key.isEmpty = false ∧ (1 : Int) ≤ (key.length : Int) ∧ (key.length : Int) ≤ 64) ∨ (signsB vr key = false ∧ ¬ 0 < Eng.bits vr) ∨ (signsB vr key = false ∧ 0 < Eng.bits vr ∧ key.isEmpty = true ∧ ¬ (1 : Int) ≤ (key.length : Int)) ∨ (signsB vr key = false ∧ 0 < Eng.bits vr ∧ key.isEmpty = false ∧ (1 : Int) ≤ (key.length : Int) ∧ ¬ (key.length : Int) ≤ 64) := by
  unfold signsB
  by_cases h1 : 0 < Eng.bits vr
  · cases key with
    | nil => right; right; left; simp [h1]
    | cons a l =>
      by_cases h2 : (a :: l).length ≤ 64
      · left; simp at h2 ⊢; omega
      · right; right; right; simp at h2 ⊢; omega
  · right; left; simp [h1]
theorem seals_cases (vr : Int) (key nonce : List UInt8) : (sealsB vr key nonce = true ∧ 0 < Eng.keyBytes vr ∧ (key.length : Int) = Eng.keyBytes vr ∧ (8 : Int) ≤ (nonce.length : Int) ∧ (nonce.length : Int) ≤ 16) ∨ (sealsB vr key nonce = false ∧ ¬ 0 < Eng.keyBytes vr) ∨ (sealsB vr key nonce = false ∧ 0 < Eng.keyBytes vr ∧ ¬ (key.length : Int) = Eng.keyBytes vr) ∨ (sealsB vr key nonce = false ∧ 0 < Eng.keyBytes vr ∧ (key.length : Int) = Eng.keyBytes vr ∧ ¬ (8 : Int) ≤ (nonce.length : Int)) ∨ (sealsB vr key nonce = false ∧ 0 < Eng.keyBytes vr ∧ (key.length : Int) = Eng.keyBytes vr ∧ (8 : Int) ≤ (nonce.length : Int) ∧ ¬ (nonce.length : Int) ≤ 16) := by
  unfold sealsB
  by_cases h1 : 0 < Eng.keyBytes vr
  · by_cases h2 : (key.length : Int) = Eng.keyBytes vr
    · by_cases h3 : 8 ≤ nonce.length
      · by_cases h4 : nonce.length ≤ 16
        · left; simp [h1, h2, h3, h4]; omega
        · right; right; right; right; simp [h1, h2, h3, h4]; omega
      · right; right; right; left; simp [h1, h2, h3]; omega
    · right; right; left; simp [h1, h2]
  · right; left; simp [h1]
theorem signs_all (vr : Int) (key : List UInt8) (w : World) : Calls Tryz.prog 22 #[.int .i64 vr, .string (B key)] w fun e w' => e = .returned (.bool (signsB vr key)) ∧ w = w' := by
  have HB := Lib.hid fun W => Eng.bits_any vr W
  have hc := signs_cases vr key
  generalize signsB vr key = r at *
  generalize Eng.bits vr = b at *
  rcases hc with ⟨rfl, h1, h2, h3, h4⟩ | ⟨rfl, h1⟩ | ⟨rfl, h1, h2, h3⟩ | ⟨rfl, h1, h2, h3, h4⟩
  all_goals
    go_enter Tryz.func22, Tryz.ntmps22
    go_wp2_with fail
    refine (HB.out _).mono ?_
    rintro _ _ ⟨rfl, rfl⟩
    go_wp2
    go_ret
    first
      | exact ⟨rfl, rfl⟩
      | exact ⟨by simp [*], rfl⟩
theorem seals_all (vr : Int) (key nonce : List UInt8) (w : World) : Calls Tryz.prog 28 #[.int .i64 vr, .string (B key), .string (B nonce)] w fun e w' => e = .returned (.bool (sealsB vr key nonce)) ∧ w = w' := by
  have HB := Lib.hid fun W => Eng.keyBytes_any vr W
  have hc := seals_cases vr key nonce
  generalize sealsB vr key nonce = r at *
  generalize Eng.keyBytes vr = b at *
  rcases hc with ⟨rfl, h1, h2, h3, h4⟩ | ⟨rfl, h1⟩ | ⟨rfl, h1, h2⟩ | ⟨rfl, h1, h2, h3⟩ | ⟨rfl, h1, h2, h3, h4⟩
  all_goals
    go_enter Tryz.func28, Tryz.ntmps28
    go_wp2_with fail
    refine (HB.out _).mono ?_
    rintro _ _ ⟨rfl, rfl⟩
    (try (go_wp2_with fail; refine (HB.out _).mono ?_; rintro _ _ ⟨rfl, rfl⟩))
    go_wp2
    go_ret
    first
      | exact ⟨rfl, rfl⟩
      | exact ⟨by simp [*], rfl⟩
theorem Sign_none (eb : Nat) (vr : Int) (key t : List UInt8) (w : World) (h : signsB vr key = false) : Calls Tryz.prog 10 #[.pointer (some ⟨eb, 0, none⟩), .int .i64 vr, .string (B key), .string (B t)] w fun e w' => e = .returned (.tuple #[.string (B []), .int .i64 1]) ∧ w = w' := by
  have HS := Lib.hid fun W => signs_all vr key W
  rw [h] at HS
  go_enter Tryz.func10, Tryz.ntmps10
  go_wp2_with fail
  refine (HS.out _).mono ?_
  rintro _ _ ⟨rfl, rfl⟩
  go_wp2
  exact bodyPost_ret (v := .tuple #[.string (B []), .int .i64 1]) (by simp [results, Tryz.results10, go_sem]; rfl) rfl ⟨rfl, rfl⟩
theorem Seal_none (eb : Nat) (vr : Int) (key nonce wth t : List UInt8) (w : World) (h : sealsB vr key nonce = false) : Calls Tryz.prog 14 #[.pointer (some ⟨eb, 0, none⟩), .int .i64 vr, .string (B key), .string (B nonce), .string (B wth), .string (B t)] w fun e w' => e = .returned (.tuple #[.string (B []), .string (B []), .int .i64 1]) ∧ w = w' := by
  have HS := Lib.hid fun W => seals_all vr key nonce W
  rw [h] at HS
  go_enter Tryz.func14, Tryz.ntmps14
  go_wp2_with fail
  refine (HS.out _).mono ?_
  rintro _ _ ⟨rfl, rfl⟩
  go_wp2
  exact bodyPost_ret (v := .tuple #[.string (B []), .string (B []), .int .i64 1]) (by simp [results, Tryz.results14, go_sem]; rfl) rfl ⟨rfl, rfl⟩
theorem rBits_any (vr : Int) (w : World) : Calls Tryz.prog 24 #[.int .i64 vr] w fun e w' => e = .returned (.int .i64 (Eng.bits vr)) ∧ w = w' := by
  go_enter Tryz.func24, Tryz.ntmps24
  go_wp2
  all_goals (go_ret; refine ⟨?_, rfl⟩; simp_all [Eng.bits]; (repeat' split) <;> omega)
theorem rSigns_all (vr : Int) (key : List UInt8) (w : World) : Calls Tryz.prog 19 #[.int .i64 vr, .string (B key)] w fun e w' => e = .returned (.bool (signsB vr key)) ∧ w = w' := by
  have HB := Lib.hid fun W => rBits_any vr W
  have hc := signs_cases vr key
  generalize signsB vr key = r at *
  generalize Eng.bits vr = b at *
  rcases hc with ⟨rfl, h1, h2, h3, h4⟩ | ⟨rfl, h1⟩ | ⟨rfl, h1, h2, h3⟩ | ⟨rfl, h1, h2, h3, h4⟩
  all_goals
    go_enter Tryz.func19, Tryz.ntmps19
    go_wp2_with fail
    refine (HB.out _).mono ?_
    rintro _ _ ⟨rfl, rfl⟩
    go_wp2
    go_ret
    first
      | exact ⟨rfl, rfl⟩
      | exact ⟨by simp [*], rfl⟩
theorem rSeals_all (vr : Int) (key nonce : List UInt8) (w : World) : Calls Tryz.prog 20 #[.int .i64 vr, .string (B key), .string (B nonce)] w fun e w' => e = .returned (.bool (sealsB vr key nonce)) ∧ w = w' := by
  have hc := seals_cases vr key nonce
  generalize sealsB vr key nonce = r at *
  unfold Eng.keyBytes at hc
  by_cases e1 : vr = 1
  · subst e1
    simp only [if_pos] at hc
    rcases hc with ⟨rfl, h1, h2, h3, h4⟩ | ⟨rfl, h1⟩ | ⟨rfl, h1, h2⟩ | ⟨rfl, h1, h2, h3⟩ | ⟨rfl, h1, h2, h3, h4⟩
    all_goals first
      | (exfalso; omega)
      | (go_enter Tryz.func20, Tryz.ntmps20
         go_wp2
         go_ret
         first
           | exact ⟨rfl, rfl⟩
           | exact ⟨by simp [*], rfl⟩)
  · rw [if_neg e1] at hc
    by_cases e3 : vr = 3
    · subst e3
      simp only [if_pos] at hc
      rcases hc with ⟨rfl, h1, h2, h3, h4⟩ | ⟨rfl, h1⟩ | ⟨rfl, h1, h2⟩ | ⟨rfl, h1, h2, h3⟩ | ⟨rfl, h1, h2, h3, h4⟩
      all_goals first
        | (exfalso; omega)
        | (go_enter Tryz.func20, Tryz.ntmps20
           go_wp2
           go_ret
           first
             | exact ⟨rfl, rfl⟩
             | exact ⟨by simp [*], rfl⟩)
    · rw [if_neg e3] at hc
      have hr : r = false := by rcases hc with ⟨_, h, _⟩ | ⟨h, _⟩ | ⟨h, _⟩ | ⟨h, _⟩ | ⟨h, _⟩ <;> first | exact h | (exfalso; omega)
      subst hr
      clear hc
      go_enter Tryz.func20, Tryz.ntmps20
      go_wp2
      go_ret
      first
        | exact ⟨rfl, rfl⟩
        | exact ⟨by simp [*], rfl⟩
end Go.Proofs.YtlbpodddokhmaaaGreat.EngT
