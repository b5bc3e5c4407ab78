/-
  The law EngineOnly's inputs: Few of two calls.
  Conditions: none.
-/
import Derived.Test.YtlbpodddokhmaaaGreatEngY
namespace Go.Proofs.YtlbpodddokhmaaaGreat.EngX
open Go.ChangeShapes Go.WideShapes Go.ChangeAt Go.RowKit Go.Deep Go.Great Go.Proofs.YtlbpodddokhmaaaGreat.Eng
structure Opp where
  kd : Int
  vr : Int
  k : List UInt8
  nn : List UInt8
  wt : List UInt8
  t : List UInt8
  tg : List UInt8
  bk : Int
def Opp.cells (o : Opp) : List Value := [.int .u8 o.kd, .int .i64 o.vr, .string (B o.k), .string (B o.nn), .string (B o.wt), .string (B o.t), .string (B o.tg), .int .u8 o.bk]
def few1 (o : Opp) : Bool := decide (o.k.length ≤ 100) && decide (o.nn.length ≤ 40) && decide (o.wt.length ≤ 100) && decide (o.t.length ≤ 100) && decide (o.tg.length ≤ 100)
theorem few_cases (o : Opp) : (few1 o = true ∧ (o.k.length : Int) ≤ 100 ∧ (o.nn.length : Int) ≤ 40 ∧ (o.wt.length : Int) ≤ 100 ∧ (o.t.length : Int) ≤ 100 ∧ (o.tg.length : Int) ≤ 100) ∨
    (few1 o = false ∧ (¬ (o.k.length : Int) ≤ 100 ∨ ((o.k.length : Int) ≤ 100 ∧ ¬ (o.nn.length : Int) ≤ 40) ∨ ((o.k.length : Int) ≤ 100 ∧ (o.nn.length : Int) ≤ 40 ∧ ¬ (o.wt.length : Int) ≤ 100) ∨
      ((o.k.length : Int) ≤ 100 ∧ (o.nn.length : Int) ≤ 40 ∧ (o.wt.length : Int) ≤ 100 ∧ ¬ (o.t.length : Int) ≤ 100) ∨ ((o.k.length : Int) ≤ 100 ∧ (o.nn.length : Int) ≤ 40 ∧ (o.wt.length : Int) ≤ 100 ∧ (o.t.length : Int) ≤ 100 ∧ ¬ (o.tg.length : Int) ≤ 100))) := by
  unfold few1
  by_cases h1 : o.k.length ≤ 100
  · by_cases h2 : o.nn.length ≤ 40
    · by_cases h3 : o.wt.length ≤ 100
      · by_cases h4 : o.t.length ≤ 100
        · by_cases h5 : o.tg.length ≤ 100
          · left; simp [h1, h2, h3, h4, h5]; omega
          · right; simp [h1, h2, h3, h4, h5]; omega
        · right; simp [h1, h2, h3, h4]; omega
      · right; simp [h1, h2, h3]; omega
    · right; simp [h1, h2]; omega
  · right; simp [h1]; omega
set_option maxHeartbeats 1600000 in
set_option maxRecDepth 100000 in
theorem rFew_any (g : Nat) (o p : Opp) (w : World) (hw : w.heap[g]? = some (.cells (o.cells ++ p.cells).toArray 31 (0, 0))) : Calls Tryz.prog 7 #[.slice (some ⟨g, 0, none⟩) 2 2, .int .i64 2] w fun e w' => e = .returned (.bool (few1 o && few1 p)) ∧ Below w.heap.size w w' := by
  have hgl := lt_of_heap hw
  have HW := Lib.hid hw
  clear hw
  go_enter Tryz.func7, Tryz.ntmps7
  go_wp2
  go_loopw [5] (fun s5 wr => ∃ i : Nat, i ≤ 2 ∧ s5 = .int .i64 (i : Int) ∧ (1 ≤ i → few1 o = true) ∧ (2 ≤ i → few1 p = true) ∧ Below w.heap.size w wr) (fun s _ => 2 - (intOf s).toNat)
  case atStart => exact ⟨0, by omega, rfl, fun h => absurd h (by omega), fun h => absurd h (by omega), Below.refl _ _⟩
  case round =>
    obtain ⟨i, hi, rfl, h1, h2, hb⟩ := hrel
    have hbw := hb.size
    have hrow := below_heap hb hgl HW.out
    by_cases hend : i = 2
    · subst hend
      have HR := Lib.hid (show (few1 o && few1 p) = true by rw [h1 (by omega), h2 (by omega)]; rfl)
      clear h1 h2 hrow
      go_wp2
      go_ret
      exact ⟨by rw [HR.out]; rfl, hb⟩
    · have hlt : (i : Int) < 2 := by omega
      have hl200 : (i : Int) < 200 := by omega
      obtain ⟨e, he⟩ : ∃ e, e = if i = 0 then o else p := ⟨_, rfl⟩
      have hcs : ∀ j u, j < 8 → e.cells[j]? = some u → wr.cell? ⟨g, i * 8 + j, none⟩ = some u := fun j u hj hu => by
        rw [cell_of_row _ _ _ _ _ _ hrow]
        by_cases h0 : i = 0
        · subst h0
          rw [if_pos rfl] at he
          subst he
          rw [show 0 * 8 + j = j by omega, List.getElem?_toArray, List.getElem?_append_left (by simp [Opp.cells]; omega)]
          exact hu
        · have h01 : i = 1 := by omega
          subst h01
          rw [if_neg (by omega)] at he
          subst he
          have hl : o.cells.length = 8 := rfl
          rw [List.getElem?_toArray, List.getElem?_append_right (by rw [hl]; omega), hl, show 1 * 8 + j - 8 = j by omega]
          exact hu
      have d0 := hcs 0 _ (by omega) rfl
      rw [Nat.add_zero] at d0
      have d1 := hcs 1 _ (by omega) rfl
      have d2 := hcs 2 _ (by omega) rfl
      have d3 := hcs 3 _ (by omega) rfl
      have d4 := hcs 4 _ (by omega) rfl
      have d5 := hcs 5 _ (by omega) rfl
      have d6 := hcs 6 _ (by omega) rfl
      have d7 := hcs 7 _ (by omega) rfl
      have hfc := few_cases e
      have hyes : few1 e = true → (1 ≤ i + 1 → few1 o = true) ∧ (2 ≤ i + 1 → few1 p = true) := fun h => by
        by_cases h0 : i = 0
        · rw [if_pos h0] at he; subst he
          exact ⟨fun _ => h, fun h9 => absurd h9 (by omega)⟩
        · rw [if_neg h0] at he; subst he
          exact ⟨fun _ => h1 (by omega), fun _ => h⟩
      have hno : few1 e = false → (few1 o && few1 p) = false := fun h => by
        by_cases h0 : i = 0
        · rw [if_pos h0] at he; subst he
          rw [h]; rfl
        · rw [if_neg h0] at he; subst he
          rw [h]; simp
      have HY := Lib.hid hyes
      have HN := Lib.hid hno
      obtain ⟨okd, ovr, okk, onn, owt, ot, otg, obk⟩ := e
      simp only at d0 d1 d2 d3 d4 d5 d6 d7 hfc
      clear hcs he h1 h2 hrow hyes hno
      have hbN : Below w.heap.size w (wr.alloc (.cells #[.int .u8 okd, .int .i64 ovr, .string (B okk), .string (B onn), .string (B owt), .string (B ot), .string (B otg), .int .u8 obk] 31)) := hb.alloc hbw _
      rcases hfc with ⟨hr, f1, f2, f3, f4, f5⟩ | ⟨hr, f1 | ⟨f1, f2⟩ | ⟨f1, f2, f3⟩ | ⟨f1, f2, f3, f4⟩ | ⟨f1, f2, f3, f4, f5⟩⟩
      · have HY2 := Lib.hid (HY.out hr)
        clear hr
        go_wp2
        go_round
        case rel => exact ⟨i + 1, by omega, by go_num, HY2.out.1, HY2.out.2, hbN⟩
        case measure => simp [intOf]; omega
      all_goals
        have HN2 := Lib.hid (HN.out hr)
        clear hr
        go_wp2
        go_ret
        exact ⟨by rw [HN2.out]; rfl, hbN⟩
end Go.Proofs.YtlbpodddokhmaaaGreat.EngX
