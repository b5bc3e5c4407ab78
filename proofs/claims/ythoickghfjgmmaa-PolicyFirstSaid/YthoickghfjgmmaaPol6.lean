/-
  The walk of the reference's Same of two lists of choices that are one list; Few of rules and of bundles; what the laws begin with.
  Conditions: at most 1000 choices.
-/
import Derived.Test.YthoickghfjgmmaaPol5
import Derived.StillTailTactics
import Derived.Deep.QuietTactic
namespace Go.Proofs.Ythoickghfjgmmaa.Pol
open Go.ChangeShapes Go.WideShapes Go.ChangeAt Go.RowKit Go.Deep Go.Great Go.Proofs.Ythoickghfjgmmaa.Eid
set_option maxHeartbeats 1600000 in
set_option maxRecDepth 100000 in
theorem runEqR (r : RuleB) (w : World) : (binOp .eql 68 (.agg r.cells.toArray) (.agg r.cells.toArray)).run Try.prog w = .ok (.bool true) w := by
  simp only [RuleB.cells]
  go_simp
set_option maxHeartbeats 1600000 in
set_option maxRecDepth 100000 in
theorem runNeqC (c : Int × RuleB) (w : World) : (binOp .neq 77 (.agg (choiceCells c).toArray) (.agg (choiceCells c).toArray)).run Try.prog w = .ok (.bool false) w := by
  simp only [choiceCells, RuleB.cells]
  go_simp
theorem opNeqC {o : Oper} {a : Act} {w : World} (x y : Operand) (tp : TypeId) (ho : o.op = .binOp .neq 77 x y tp) (c : Int × RuleB) (hx : a.eval x = .agg (choiceCells c).toArray) (hy : a.eval y = .agg (choiceCells c).toArray) :
    (execOp a.eval o).run Try.prog w = .ok (.value (.bool false)) w := by
  unfold execOp
  simp only [ho, hx, hy, Sem.run_bind, runNeqC, Sem.run_pure, Result.andThen_ok]
  simp only [choiceCells, RuleB.cells]
  go_simp
theorem opEqR {o : Oper} {a : Act} {w : World} (x y : Operand) (tp : TypeId) (ho : o.op = .binOp .eql 68 x y tp) (r : RuleB) (hx : a.eval x = .agg r.cells.toArray) (hy : a.eval y = .agg r.cells.toArray) :
    (execOp a.eval o).run Try.prog w = .ok (.value (.bool true)) w := by
  unfold execOp
  simp only [ho, hx, hy, Sem.run_bind, runEqR, Sem.run_pure, Result.andThen_ok]
  simp only [RuleB.cells]
  go_simp
theorem flat_get18 (cs : List (Int × RuleB)) (i j : Nat) (c : Int × RuleB) (hc : cs[i]? = some c) (hj : j < 18) : (cs.flatMap choiceCells)[i * 18 + j]? = (choiceCells c)[j]? := by
  induction cs generalizing i with
  | nil => simp at hc
  | cons a cs ih =>
    rw [List.flatMap_cons]
    have hl : (choiceCells a).length = 18 := rfl
    cases i with
    | zero =>
      simp only [List.getElem?_cons_zero, Option.some.injEq] at hc
      subst hc
      rw [List.getElem?_append_left (by omega)]
      congr 1
      omega
    | succ i =>
      rw [List.getElem?_append_right (by omega), hl, show (i + 1) * 18 + j - 18 = i * 18 + j by omega]
      exact ih i (by simpa using hc)
theorem ChoicesAt.form {w : World} {base : Nat} {v : Value} {cs : List (Int × RuleB)} (h : ChoicesAt w base v cs) : ∃ a cap, v = .slice a cs.length cap ∧ ∀ i c, cs[i]? = some c → ∃ g, a = some ⟨g, 0, none⟩ ∧ g < w.heap.size ∧ base ≤ g ∧ w.rangeAt g (i * 18) (choiceCells c) := by
  rcases Nat.eq_zero_or_pos cs.length with h0 | h0
  · rcases h.2 with ⟨rfl, h1⟩ | ⟨g, cap, cur, rfl, _⟩
    · refine ⟨none, 0, by rw [h0], fun i c hc => ?_⟩
      rw [List.length_eq_zero_iff.1 h0] at hc
      simp at hc
    · refine ⟨_, cap, rfl, fun i c hc => ?_⟩
      rw [List.length_eq_zero_iff.1 h0] at hc
      simp at hc
  · obtain ⟨g, cap, hf, hb, hl⟩ := World.ownsRow.form h h0
    subst hf
    refine ⟨_, cap, rfl, fun i c hc => ⟨g, rfl, hl, hb, fun j u hj => ?_⟩⟩
    have hi := (List.getElem?_eq_some_iff.1 hc).1
    have hj18 : j < 18 := (List.getElem?_eq_some_iff.1 hj).1
    have := World.ownsRow.cellAt h (i * 18 + j) (by omega)
    rw [this, flat_get18 cs i j c hc hj18]
    exact hj
theorem wpStill_val {P : Program} {ops : Array Oper} {rest : List Oper} {o : Oper} {a : Act} {w : World} {Q : Act → Prop} (hgd : o.guard = none) (dst : Option Tmp) (hdst : o.dst = dst) (v : Value)
    (hrun : (execOp a.eval o).run P w = .ok (.value v) w) (h : wpStill P ops w Q rest (a.put dst v)) : wpStill P ops w Q (o :: rest) a := by
  have hw : Region.wanted o (yielded ops a.tmps) = true := by simp [Region.wanted, hgd]
  unfold wpStill
  rw [if_pos hw]
  unfold Oper.still
  rw [hrun]
  exact ⟨rfl, by rw [hdst]; exact h⟩
theorem wpStill_mid {P : Program} {ops : Array Oper} {rest : List Oper} {o : Oper} {a : Act} {w : World} {Q : Act → Prop} (ty : TypeId) (x : Operand) (ho : o.op = .load ty x) (hgd : o.guard = none) (dst : Option Tmp) (hdst : o.dst = dst)
    (b f : Nat) (hx : a.eval x = .pointer (some ⟨b, f, none⟩)) (c : Array Value) (hc : w.rangeAt b f c.toList) (d : TypeDesc) (hu : P.underlying ty = some d) (hd : d.isRow = true) (hi : (P.info? ty).map (·.size) = some c.size)
    (h : wpStill P ops w Q rest (a.put dst (.agg c))) : wpStill P ops w Q (o :: rest) a := by
  refine wpStill_val hgd dst hdst _ ?_ h
  unfold execOp
  simp only [ho, hx, Instr.loadAt, Instr.sureAddr, Sem.run_bind, Sem.run_pure, Result.andThen_ok, run_loadVar_mid w b f ty c.toList d hc hu hd (by simpa using hi)]
theorem infoCs : (Try.prog.info? 77).map (·.size) = some 18 := by kernel_rfl
set_option maxHeartbeats 1600000 in
set_option maxRecDepth 100000 in
theorem Same_any (u1 u2 : Value) (b1 b2 : Nat) (cs : List (Int × RuleB)) (w : World) (h1 : ChoicesAt w b1 u1 cs) (h2 : ChoicesAt w b2 u2 cs) (hl : cs.length ≤ 2000) :
    Calls Try.prog 37 #[u1, u2] w fun e w' => e = .returned (.bool true) ∧ Below w.heap.size w w' := by
  obtain ⟨a1, c1, rfl, hx1⟩ := h1.form
  obtain ⟨a2, c2, rfl, hx2⟩ := h2.form
  obtain ⟨n, hn⟩ : ∃ n, cs.length = n := ⟨_, rfl⟩
  rw [hn] at hl
  rw [hn]
  have HX1 := Lib.hid hx1
  have HX2 := Lib.hid hx2
  have HN := Lib.hid hn
  clear h1 h2 hx1 hx2 hn
  go_enter Try.func37, Try.ntmps37
  go_wp2
  go_loopw [5] (fun s5 wr => ∃ i : Nat, i ≤ n ∧ s5 = .int .i64 (i : Int) ∧ Below w.heap.size w wr) (fun s _ => n - (intOf s).toNat)
  case atStart => exact ⟨0, by omega, rfl, Below.refl _ _⟩
  case round =>
    obtain ⟨i, hi, rfl, hb⟩ := hrel
    by_cases hend : i = n
    · have hlt : ¬ (i : Int) < (n : Int) := by omega
      clear hend
      go_wp2
      go_ret
      exact ⟨rfl, hb⟩
    · have hlt : (i : Int) < (n : Int) := by omega
      obtain ⟨c, hc⟩ : ∃ c, cs[i]? = some c := ⟨cs[i]'(by rw [HN.out]; omega), List.getElem?_eq_getElem (by rw [HN.out]; omega)⟩
      obtain ⟨g1, rfl, hg1, _, hr1⟩ := HX1.out i c hc
      obtain ⟨g2, rfl, hg2, _, hr2⟩ := HX2.out i c hc
      have R1 := Lib.hid (rangeAt_below hr1 hb hg1)
      have R2 := Lib.hid (rangeAt_below hr2 hb hg2)
      clear hr1 hr2 hc hend
      go_wp2_with fail
      refine wp_region_still_lit (by kernel_rfl) (by kernel_rfl) ?_
      still_step
      still_step
      still_step
      refine wpStill_mid 77 (.tmp 19) rfl rfl (some 20) rfl g1 (i * 18) rfl (choiceCells c).toArray R1.out _ Try.underlying77 rfl infoCs ?_
      simp only [Act.put, List.setIfInBounds_toArray, List.set_cons_zero, List.set_cons_succ]
      still_step
      still_step
      still_step
      refine wpStill_mid 77 (.tmp 23) rfl rfl (some 24) rfl g2 (i * 18) rfl (choiceCells c).toArray R2.out _ Try.underlying77 rfl infoCs ?_
      simp only [Act.put, List.setIfInBounds_toArray, List.set_cons_zero, List.set_cons_succ]
      refine wpStill_val rfl (some 25) rfl (.bool false) (opNeqC (.tmp 20) (.tmp 24) _ rfl c rfl rfl) ?_
      simp only [Act.put, List.setIfInBounds_toArray, List.set_cons_zero, List.set_cons_succ]
      refine wpStill_nil ?_
      show (_ : Exit → Act → World → Prop) .normal _ wr.drew
      have hbd := Lib.hid (show Below w.heap.size w wr.drew from hb.drew)
      clear hb
      generalize wr.drew = wd at *
      go_wp2
      go_round
      case rel => exact ⟨i + 1, by omega, by go_num, hbd.out⟩
      case measure => simp [intOf]; omega
end Go.Proofs.Ythoickghfjgmmaa.Pol
