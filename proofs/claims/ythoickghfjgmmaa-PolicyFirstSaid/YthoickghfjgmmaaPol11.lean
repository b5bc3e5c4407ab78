/-
  A list of rules that grows; the plain law of PolicyFirst.
  Conditions: at most 1000 rules.
-/
import Derived.Test.YthoickghfjgmmaaPol10
namespace Go.Proofs.Ythoickghfjgmmaa.Pol
open Go.ChangeShapes Go.WideShapes Go.ChangeAt Go.RowKit Go.Deep Go.Great Go.Proofs.Ythoickghfjgmmaa.Eid
def OwnRules (w : World) (base : Nat) (v : Value) (rs : List RuleB) : Prop := w.ownsRow base 68 17 v rs.length (rs.flatMap RuleB.cells)
theorem flat_get17 (cs : List RuleB) (i j : Nat) (c : RuleB) (hc : cs[i]? = some c) (hj : j < 17) : (cs.flatMap RuleB.cells)[i * 17 + j]? = c.cells[j]? := by
  induction cs generalizing i with
  | nil => simp at hc
  | cons a cs ih =>
    rw [List.flatMap_cons]
    have hl : a.cells.length = 17 := rfl
    cases i with
    | zero =>
      simp only [List.getElem?_cons_zero, Option.some.injEq] at hc
      subst hc
      rw [List.getElem?_append_left (by omega)]
      congr 1
      omega
    | succ i =>
      rw [List.getElem?_append_right (by omega), hl, show (i + 1) * 17 + j - 17 = i * 17 + j by omega]
      exact ih i (by simpa using hc)
theorem OwnRules.rules {w : World} {base : Nat} {v : Value} {rs : List RuleB} (h : OwnRules w base v rs) (hok : ∀ r ∈ rs, r.ok) (hl : rs.length ≤ 1000) : RulesAt w v rs := by
  refine ⟨⟨by rw [List.length_map]; unfold maxLen; omega, ?_⟩, hok⟩
  rcases Nat.eq_zero_or_pos rs.length with h0 | h0
  · have hnil : rs = [] := List.length_eq_zero_iff.1 h0
    subst hnil
    rcases h.2 with ⟨rfl, h1⟩ | ⟨g, cap, cur, rfl, _, _, _, hcm, _⟩
    · exact ⟨none, 0, rfl, Nat.le_refl _, Nat.zero_le _, .inl rfl⟩
    · exact ⟨_, cap, rfl, Nat.zero_le _, hcm, .inl rfl⟩
  · have h' := h
    rcases h.2 with ⟨_, h1⟩ | ⟨g, cap, cur, rfl, hb, hg, hnc, hcm, hcs, htk⟩
    · omega
    · refine ⟨_, cap, by rw [List.length_map], by rw [List.length_map]; exact hnc, hcm, .inr ⟨g, 0, rfl, (Array.getElem?_eq_some_iff.1 hg).1, fun j cs hj i u hi => ?_⟩⟩
      rw [List.getElem?_map, Option.map_eq_some_iff] at hj
      obtain ⟨r, hr, rfl⟩ := hj
      have hi17 : i < 17 := (List.getElem?_eq_some_iff.1 hi).1
      have hjl : j < rs.length := (List.getElem?_eq_some_iff.1 hr).1
      have := World.ownsRow.cellAt h' (j * 17 + i) (by omega)
      rw [Nat.zero_add, this, flat_get17 rs j i r hr hi17]
      exact hi
set_option maxRecDepth 100000 in
theorem infoR3 : (Try.prog.info? 68).map (fun i => (i.zero, i.size, i.bytes)) = some (some (.agg zeroR.cells.toArray), 17, 152) := by kernel_rfl
theorem rules_oneCell (rs : List RuleB) : ∀ u ∈ rs.flatMap RuleB.cells, u.oneCell' = true := by
  intro u hu
  obtain ⟨r, _, hr⟩ := List.mem_flatMap.1 hu
  simp only [RuleB.cells, List.mem_cons, List.mem_nil_iff, or_false] at hr
  rcases hr with rfl | rfl | rfl | rfl | rfl | rfl | rfl | rfl | rfl | rfl | rfl | rfl | rfl | rfl | rfl | rfl | rfl <;> rfl
theorem run_append_none {P : Program} (w : World) (base : Nat) (t ty e : TypeId) (i : TypeInfo) (ht : P.underlying t = some (.slice e)) (hi : P.info? e = some i) (size : Nat) (v : Value) (n : Nat) (xs : List Value) (hown : w.ownsRow base e size v n xs) (c : Nat) :
    (Builtin.append_ #[t, t] ty #[v, .slice none 0 c]).run P w = .ok v w := by
  rcases hown.2 with ⟨rfl, rfl⟩ | ⟨g, cap, cur, rfl, hbg, hg, hnc, hcm, hcs, htake⟩
  · simp [Builtin.append_, run_underlying ht, sizeOf, typeInfo, hi, Builtin.lenOf, Builtin.firstCells, loadCells, loadCellsFrom]
  · simp [Builtin.append_, run_underlying ht, sizeOf, typeInfo, hi, Builtin.lenOf, Builtin.firstCells, loadCells, loadCellsFrom, hnc, storeCells]
theorem flat_len17 : ∀ rs : List RuleB, (rs.flatMap RuleB.cells).length = rs.length * 17
  | [] => rfl
  | r :: rs => by rw [List.flatMap_cons, List.length_append, flat_len17 rs, List.length_cons]; show 17 + _ = _; omega
/-- Rules appended to rules. -/
theorem app_rules {ops : Array Oper} {rest : List Oper} {o : Oper} {a : Act} {w w0 : World} {Q : Exit → Act → World → Prop} (hgd : o.guard = none) (dst : Option Tmp) (hdst : o.dst = dst) (s x : Operand)
    (ho : o.op = .call { callee := .builtin .append, args := #[s, x], argTypes := #[56, 56] }) (v v2 : Value) (rs rs2 : List RuleB) (base : Nat) (hs : a.eval s = v) (hx : a.eval x = v2)
    (hown : OwnRules w base v rs) (hR : RulesAt w v2 rs2) (hlen : rs.length + rs2.length ≤ 1000) (hbase : base ≤ w.heap.size) (hb : Below base w0 w)
    (h : ∀ v' w', OwnRules w' base v' (rs ++ rs2) → Below base w0 w' → wpList Try.prog ops Q rest (a.put dst v') w') : wpList Try.prog ops Q (o :: rest) a w := by
  cases hq : Try.prog.info? 68 with
  | none => have := infoR3; rw [hq] at this; cases this
  | some inf =>
    have hi := infoR3
    rw [hq] at hi
    simp only [Option.map_some, Option.some.injEq, Prod.mk.injEq] at hi
    obtain ⟨hz1, hz2, hz3⟩ := hi
    obtain ⟨⟨hm, a2, c, rfl, hl, hc, hcell⟩, hok⟩ := hR
    rw [List.length_map] at hl hx
    have hnews : ∀ ad : Addr, a2 = some ad → ∀ j u, (rs2.flatMap RuleB.cells)[j]? = some u → w.cell? (ad.add j) = some u := by
      intro ad had j u hu
      rcases hcell with hnil | ⟨b, f, hbf, hbl, hcl⟩
      · rw [List.map_eq_nil_iff] at hnil; subst hnil; simp at hu
      · rw [had] at hbf
        cases hbf
        have hjl : j < (rs2.flatMap RuleB.cells).length := (List.getElem?_eq_some_iff.1 hu).1
        have hfl : (rs2.flatMap RuleB.cells).length = rs2.length * 17 := flat_len17 rs2
        have hi : j / 17 < rs2.length := by omega
        have hd : j / 17 * 17 + j % 17 = j := by omega
        rw [← hd, flat_get17 rs2 (j / 17) (j % 17) _ (List.getElem?_eq_getElem hi) (Nat.mod_lt _ (by omega))] at hu
        rw [Addr.add_mid]
        have := hcl (j / 17) _ (by rw [List.getElem?_map, List.getElem?_eq_getElem hi]; rfl) (j % 17) u hu
        rwa [hd] at this
    have hfl : (rs2.flatMap RuleB.cells).length = rs2.length * 17 := flat_len17 rs2
    cases a2 with
    | some ad =>
      refine wpList_append_own _ hgd s x 56 ho base 68 inf (.agg zeroR.cells.toArray) 17 152 Try.underlying56 hq hz1 hz2 hz3 rfl (by omega) v rs.length (rs.flatMap RuleB.cells) hs hown ad rs2.length c (rs2.flatMap RuleB.cells) hx hfl (hnews ad rfl) (rules_oneCell rs2) (by unfold maxLen; omega) (by omega) hbase ?_
      intro v' w' hown' hg _
      rw [hdst]
      refine h _ _ ?_ (below_grown hb hbase hg fun k hk => (World.ownsRow.lt hown k hk).1)
      show World.ownsRow _ _ _ _ _ _ _
      rw [List.length_append, List.flatMap_append]
      exact hown'
    | none =>
      have hnil : rs2 = [] := by
        rcases hcell with hnil | ⟨b, f, hbf, _⟩
        · rwa [List.map_eq_nil_iff] at hnil
        · cases hbf
      subst hnil
      refine wpList_plain hgd fun K hK => ?_
      unfold Oper.wp execOp
      simp only [ho, resolve, invoke, builtin, Sem.run_bind, Sem.run_pure, Result.andThen_ok, List.map_toArray, List.map_cons, List.map_nil, hs, hx, List.length_nil, run_append_none w base 56 o.type 68 inf Try.underlying56 hq 17 v rs.length (rs.flatMap RuleB.cells) hown c]
      refine hK _ _ ?_
      rw [hdst]
      exact h _ _ (by rw [List.append_nil]; exact hown) hb
/-! The plain law. -/
def wrapI (n : Int) : Int := wrap64 n
def bumpB (role op : Int) (r : RuleB) : RuleB := if r.role = role ∧ r.op = op then { r with role := wrapI (r.role + 1) } else r
theorem wrap_ne {n : Int} (h : (Lit.int .i64 n).wf = true) : wrapI (n + 1) ≠ n ∧ (Lit.int .i64 (wrapI (n + 1))).wf = true := by
  simp [Lit.wf, IntKind.min, IntKind.max, IntKind.signed, IntKind.bits] at h
  by_cases e : n = 9223372036854775807
  · subst e
    decide +kernel
  · have hw : wrapI (n + 1) = n + 1 := by
      unfold wrapI wrap64
      omega
    rw [hw]
    refine ⟨by omega, ?_⟩
    simp [Lit.wf, IntKind.min, IntKind.max, IntKind.signed, IntKind.bits]
    omega
theorem bump_yes {role op : Int} {r : RuleB} (h : r.role = role ∧ r.op = op) : bumpB role op r = { r with role := wrapI (role + 1) } := by unfold bumpB; rw [if_pos h, h.1]
theorem bump_no {role op : Int} {r : RuleB} (h : ¬ (r.role = role ∧ r.op = op)) : bumpB role op r = r := by unfold bumpB; rw [if_neg h]
theorem bump_ok {role op : Int} {r : RuleB} (h : r.ok) : (bumpB role op r).ok := by
  unfold bumpB
  split
  · exact ⟨h.1, h.2.1, (wrap_ne h.2.2).2⟩
  · exact h
theorem bump_fits {role op typ : Int} {p : PrimB} {r : RuleB} (h : r.ok) : fitsB (bumpB role op r) role op typ p = false := by
  unfold bumpB
  split
  · next hc =>
    have := (wrap_ne h.2.2).1
    simp only [fitsB]
    rw [decide_eq_false (by rw [← hc.1]; exact this)]
    rfl
  · next hc =>
    simp only [fitsB]
    by_cases h1 : r.role = role
    · rw [decide_eq_false (fun h2 => hc ⟨h1, h2⟩)]
      simp
    · rw [decide_eq_false h1]
      rfl
theorem pick_mixed {l0 l1 : List RuleB} {role op typ : Int} {p : PrimB} (h : ∀ r ∈ l1, r.ok) : pickB (l1.map (bumpB role op) ++ l0) role op typ p = pickB l0 role op typ p := by
  unfold pickB
  rw [List.find?_append]
  have : (l1.map (bumpB role op)).find? (fun r => fitsB r role op typ p) = none := by
    rw [List.find?_eq_none]
    intro x hx
    obtain ⟨r, hr, rfl⟩ := List.mem_map.1 hx
    rw [bump_fits (h r hr)]
    simp
  rw [this, Option.none_or]
theorem pick_all {l0 l1 : List RuleB} {role op typ : Int} {p : PrimB} {r : RuleB} (h : pickB l0 role op typ p = some r) : pickB (l0 ++ l1) role op typ p = some r := by
  unfold pickB at h ⊢
  rw [List.find?_append, h]
  rfl
end Go.Proofs.Ythoickghfjgmmaa.Pol
