/-
  The law PolicyPicks, walked.
  Conditions: none.
-/
import Derived.Test.YthoickghfjgmmaaPol8
namespace Go.Proofs.Ythoickghfjgmmaa.Pol
open Go.ChangeShapes Go.WideShapes Go.ChangeAt Go.RowKit Go.Deep Go.Great Go.Proofs.Ythoickghfjgmmaa.Eid
def getR (f : Option RuleB) : RuleB := f.getD zeroR
theorem pickV_eq (f : Option RuleB) : pickV f = .tuple #[.agg (getR f).cells.toArray, .bool f.isSome] := by cases f <;> rfl
theorem infoBun : (Try.prog.info? 62).map (·.size) = some 20 := by kernel_rfl
theorem bun_range {w : World} {b : Nat} {p : PrimB} {bv : Value} {C : Array Value} {t : TypeId} (hC : C.toList = p.cells ++ [bv]) (h : w.heap[b]? = some (.cells C t (0, 0))) : w.rangeAt b 0 p.cells := fun j u hj => by
  rw [Nat.zero_add, cell_of_row _ _ _ _ _ _ h, ← Array.getElem?_toList, hC, List.getElem?_append_left (List.getElem?_eq_some_iff.1 hj).1]
  exact hj
/-- A call whose value is not known beforehand. -/
theorem wpH_callE {P : Program} {Q : Exit → Act → World → Prop} {o : Oper} {a : Act} {w : World} {K : Act → World → Prop} (dst : Option Tmp) (hdst : o.dst = dst) (f : FuncId) (args : Array Value) (hrun : (execOp a.eval o).run P w = .ok (.enter f args) w) (R : Value → World → Prop)
    (hc : Calls P f args w fun e w' => ∃ v, e = .returned v ∧ R v w') (h : ∀ v w', R v w' → K (a.put dst v) w') : o.wp P a w K Q := by
  subst hdst
  unfold Oper.wp
  rw [hrun]
  refine hc.mono ?_
  rintro _ w' ⟨v, rfl, hr⟩
  exact h v w' hr
section
variable {P : Program} {ops : Array Oper} {Q : Exit → Act → World → Prop} {md : Region.Mode} {S : World → Prop}
/-- Two operations that may come up; they may be guarded. -/
theorem twoHg (i j : Nat) {oi oj : Oper} {fuel : Nat} {listed : Array Bool} {a : Act} {w : World} (hi : ops[i]? = some oi) (hj : ops[j]? = some oj) (hgd : Region.wanted oi (yielded ops a.tmps) = true) (hgj : Region.wanted oj (yielded ops a.tmps) = true) (hr : Region.ready md ops listed = [i, j])
    (h : ∀ K : Act → World → Prop, (∀ a' w', S w' → (S w' → wpAnyH P md ops Q S fuel (listed.setIfInBounds i true) a' w') → K a' w') → oi.wp P a w K Q)
    (h2 : ∀ K : Act → World → Prop, (∀ a' w', S w' → (S w' → wpAnyH P md ops Q S fuel (listed.setIfInBounds j true) a' w') → K a' w') → oj.wp P a w K Q) : wpAnyH P md ops Q S (fuel + 1) listed a w := by
  refine wpAnyH_ready hr (by simp) (AllReadyH.cons hi (fun K hK => ?_) (AllReadyH.cons hj (fun K hK => ?_) AllReadyH.nil))
  · rw [if_pos hgd]
    exact h K hK.out
  · rw [if_pos hgj]
    exact h2 K hK.out
end
/-- A struct by value, read out of a block, as an operation. -/
theorem runLdMid {P : Program} {o : Oper} {a : Act} {w : World} (ty : TypeId) (x : Operand) (ho : o.op = .load ty x) (b f : Nat) (hx : a.eval x = .pointer (some ⟨b, f, none⟩)) (c : Array Value) (hc : w.rangeAt b f c.toList) (d : TypeDesc) (hu : P.underlying ty = some d) (hd : d.isRow = true) (hi : (P.info? ty).map (·.size) = some c.size) :
    (execOp a.eval o).run P w = .ok (.value (.agg c)) w := by
  unfold execOp
  simp only [ho, hx, Instr.loadAt, Instr.sureAddr, Sem.run_bind, Sem.run_pure, Result.andThen_ok, run_loadVar_mid w b f ty c.toList d hc hu hd (by simpa using hi)]
set_option maxHeartbeats 16000000 in
set_option maxRecDepth 100000 in
theorem PolicyPicks_any (v bv : Value) (rs : List RuleB) (bs : List BlkB) (role op typ : Int) (p : PrimB) (w : World) (hv : RulesAt w v rs) (hbv : BlksAt w bv bs) (hp : p.ok) :
    Calls Try.prog 10 #[v, .agg (bunCells p bv).toArray, .agg #[.int .i64 role, .int .i64 op, .int .i64 typ]] w fun e w' => e = .returned (.bool true) ∧ Below w.heap.size w w' := by
  have HV := Lib.hid hv
  have HBV := Lib.hid hbv
  have HPO := Lib.hid hp
  have HBF := Lib.hid fun (W : World) (h : BlksAt W bv bs) => bFew_any bv bs p W h
  have HF1 := Lib.hid fun (W : World) (h : RulesAt W v rs) (hb : BlksAt W bv bs) (h1 : rs.length ≤ 20) (h2 : bs.length ≤ 20) => For_any v bv rs bs role op p W h hb (by omega) (by omega) hp
  have HF2 := Lib.hid fun (W : World) (h : RulesAt W v rs) (hb : BlksAt W bv bs) (h1 : rs.length ≤ 20) (h2 : bs.length ≤ 20) => rFor_any v bv rs bs role op p W h hb (by omega) (by omega) hp
  clear hv hbv hp
  obtain ⟨C, hC⟩ : ∃ C, (bunCells p bv).toArray = C := ⟨_, rfl⟩
  have hCl : C.toList = p.cells ++ [bv] := by rw [← hC]; rfl
  have HCl := Lib.hid hCl
  have hCs : C.size = 20 := by rw [← hC]; rfl
  have HCs := Lib.hid hCs
  rw [hC] at HBF HF1 HF2
  rw [hC]
  clear hC hCl hCs
  obtain ⟨w1, hw1⟩ : ∃ w1, (w.alloc (.cells C 62)).alloc (.cells #[.int .i64 role, .int .i64 op, .int .i64 typ] 64) = w1 := ⟨_, rfl⟩
  have gS : w1.heap.size = w.heap.size + 1 + 1 := by rw [← hw1]; show ((w.heap.push _).push _).size = _; simp
  have gB : w1.heap[w.heap.size]? = some (.cells C 62 (0, 0)) := by rw [← hw1]; exact heap_under (heap_alloc_last w _)
  have gA : w1.heap[w.heap.size + 1]? = some (.cells #[.int .i64 role, .int .i64 op, .int .i64 typ] 64 (0, 0)) := by rw [← hw1]; exact heap_at (by show (w.heap.push _).size = _; simp)
  have gb : Below w.heap.size w w1 := by rw [← hw1]; exact ((Below.refl _ _).alloc (Nat.le_refl _) _).alloc (by show w.heap.size ≤ (w.heap.push _).size; simp) _
  have GB := Lib.hid gB
  have GA := Lib.hid gA
  have GW := Lib.hid gb
  have GS := Lib.hid gS
  clear gb gA gB
  go_enter Try.func10, Try.ntmps10
  go_wp2_with fail
  clear hw1 gS
  refine (awake_pol _).mono ?_
  rintro e w2 ⟨rfl, hb2⟩
  have K2 := Lib.hid hb2
  clear hb2
  go_wp2_with fail
  have V1 := Lib.hid (HV.out.below GW.out (Nat.le_refl _))
  have B1 := Lib.hid (HBV.out.below GW.out (Nat.le_refl _))
  refine (rFew_any v rs _ (V1.out.below K2.out (Nat.le_refl _))).mono ?_
  rintro e w3 ⟨⟨k1, rfl, hk1⟩, hb3⟩
  have K3 := Lib.hid (K2.out.trans (hb3.mono K2.out.size))
  have HK1 := Lib.hid hk1
  clear hk1 hb3 K2
  cases k1 with
  | false =>
    go_wp2_with fail
    refine (awake_pol _).mono ?_
    rintro e w4 ⟨rfl, hb4⟩
    have K4 := Lib.hid (GW.out.trans ((K3.out.trans (hb4.mono K3.out.size)).mono GW.out.size))
    clear hb4
    go_wp2
    go_ret
    exact ⟨rfl, K4.out⟩
  | true =>
    have hn20 := HK1.out rfl
    go_wp2_with (with_reducible refine stop_load 62 rfl ?_)
    have hw1 : w.heap.size < w1.heap.size := by have := GS.out; omega
    have hw2 : w.heap.size + 1 < w1.heap.size := by have := GS.out; omega
    refine load_mid_g 62 (.tmp 4) rfl rfl (some 19) rfl w.heap.size 0 rfl C (rangeAt_row (heap_below K3.out hw1 GB.out)) _ Try.underlying62 rfl (by rw [HCs.out]; exact infoBun) ?_
    go_wp2_with fail
    refine (HBF.out _ (B1.out.below K3.out (Nat.le_refl _))).mono ?_
    rintro e w4 ⟨⟨k2, rfl, hk2⟩, hb4⟩
    have K4 := Lib.hid (K3.out.trans (hb4.mono K3.out.size))
    have HK2 := Lib.hid hk2
    clear hk2 hb4 K3
    cases k2 with
    | false =>
      go_wp2_with fail
      refine (awake_pol _).mono ?_
      rintro e w5 ⟨rfl, hb5⟩
      have K5 := Lib.hid (GW.out.trans ((K4.out.trans (hb5.mono K4.out.size)).mono GW.out.size))
      clear hb5
      go_wp2
      go_ret
      exact ⟨rfl, K5.out⟩
    | true =>
      have hm20 := HK2.out rfl
      have HN20 := Lib.hid hn20
      have HM20 := Lib.hid hm20
      clear hn20 hm20 HK1 HK2
      have gA : w4.heap[w.heap.size + 1]? = some (.cells #[.int .i64 role, .int .i64 op, .int .i64 typ] 64 (0, 0)) := heap_below K4.out hw2 GA.out
      have c0 : w4.cell? ⟨w.heap.size + 1, 0, none⟩ = some (.int .i64 role) := by rw [cell_of_row _ _ _ _ _ _ gA]; rfl
      have c1 : w4.cell? ⟨w.heap.size + 1, 1, none⟩ = some (.int .i64 op) := by rw [cell_of_row _ _ _ _ _ _ gA]; rfl
      have c2 : w4.cell? ⟨w.heap.size + 1, 2, none⟩ = some (.int .i64 typ) := by rw [cell_of_row _ _ _ _ _ _ gA]; rfl
      clear gA
      go_wp2_with (with_reducible refine stop_load 59 rfl ?_)
      refine load_mid 59 (.tmp 30) rfl rfl (some 31) rfl w.heap.size 0 rfl p.cells.toArray (bun_range HCl.out (heap_below K4.out hw1 GB.out)) _ Try.underlying59 rfl infoP ?_
      go_wp2_with fail
      refine (Pick_any v rs role op typ p _ (V1.out.below K4.out (Nat.le_refl _)) (by have := HN20.out; omega) HPO.out).mono ?_
      rintro e w5 ⟨rfl, hb5⟩
      rw [pickV_eq]
      have K5 := Lib.hid (K4.out.trans (hb5.mono K4.out.size))
      clear hb5 c0 c1 c2 K4
      generalize hgf : getR (pickB rs role op typ p) = r at *
      generalize hgk : (pickB rs role op typ p).isSome = k at *
      go_wp2_with (with_reducible refine stop_store 68 rfl ?_)
      refine store_row 68 (.tmp 7) (.tmp 35) rfl rfl rfl w5.heap.size r.cells.toArray rfl rfl 68 zeroR.cells.toArray (heap_alloc_last w5 _) infoR rfl (oneR _) ?_
      rw [World.setRow_alloc_new]
      have j1 : Below w1.heap.size w1 (w5.alloc (.cells r.cells.toArray 68)) := K5.out.alloc K5.out.size _
      have j2 := heap_alloc_last w5 (.cells r.cells.toArray 68)
      have j3 : w5.heap.size < (w5.alloc (.cells r.cells.toArray 68)).heap.size := lt_of_last
      have K6 := Lib.hid j1
      have R6 := Lib.hid j2
      clear j1 j2 K5
      generalize w5.alloc (.cells r.cells.toArray 68) = w6 at *
      generalize w5.heap.size = m at *
      have gA : w6.heap[w.heap.size + 1]? = some (.cells #[.int .i64 role, .int .i64 op, .int .i64 typ] 64 (0, 0)) := heap_below K6.out hw2 GA.out
      have c0 : w6.cell? ⟨w.heap.size + 1, 0, none⟩ = some (.int .i64 role) := by rw [cell_of_row _ _ _ _ _ _ gA]; rfl
      have c1 : w6.cell? ⟨w.heap.size + 1, 1, none⟩ = some (.int .i64 op) := by rw [cell_of_row _ _ _ _ _ _ gA]; rfl
      have c2 : w6.cell? ⟨w.heap.size + 1, 2, none⟩ = some (.int .i64 typ) := by rw [cell_of_row _ _ _ _ _ _ gA]; rfl
      clear gA
      go_wp2_with (with_reducible refine stop_load 59 rfl ?_)
      refine load_mid 59 (.tmp 43) rfl rfl (some 44) rfl w.heap.size 0 rfl p.cells.toArray (bun_range HCl.out (heap_below K6.out hw1 GB.out)) _ Try.underlying59 rfl infoP ?_
      go_wp2_with fail
      refine (rPick_any v rs role op typ p _ (V1.out.below K6.out (Nat.le_refl _)) (by have := HN20.out; omega) HPO.out).mono ?_
      rintro e w7 ⟨rfl, hb7⟩
      rw [pickV_eq, hgf, hgk]
      have K7 := Lib.hid (K6.out.trans (hb7.mono K6.out.size))
      have R7 := Lib.hid (heap_below hb7 j3 R6.out)
      have hs7 := hb7.size
      clear hb7 c0 c1 c2 K6 R6 hgf hgk
      go_wp2_with (with_reducible refine stop_store 68 rfl ?_)
      refine store_row 68 (.tmp 9) (.tmp 48) rfl rfl rfl w7.heap.size r.cells.toArray rfl rfl 68 zeroR.cells.toArray (heap_alloc_last w7 _) infoR rfl (oneR _) ?_
      rw [World.setRow_alloc_new]
      have l1 : Below w1.heap.size w1 (w7.alloc (.cells r.cells.toArray 68)) := K7.out.alloc K7.out.size _
      have l2 := heap_alloc_last w7 (.cells r.cells.toArray 68)
      have l3 : w7.heap.size < (w7.alloc (.cells r.cells.toArray 68)).heap.size := lt_of_last
      have l4 := heap_under (o := .cells r.cells.toArray 68) R7.out
      have K8 := Lib.hid l1
      have Ra := Lib.hid l4
      have Rb := Lib.hid l2
      clear l1 l2 l4 K7 R7
      generalize w7.alloc (.cells r.cells.toArray 68) = w8 at *
      generalize w7.heap.size = m2 at *
      go_wp2_with fail
      have gA : w8.heap[w.heap.size + 1]? = some (.cells #[.int .i64 role, .int .i64 op, .int .i64 typ] 64 (0, 0)) := heap_below K8.out hw2 GA.out
      have c0 : w8.cell? ⟨w.heap.size + 1, 0, none⟩ = some (.int .i64 role) := by rw [cell_of_row _ _ _ _ _ _ gA]; rfl
      have c1 : w8.cell? ⟨w.heap.size + 1, 1, none⟩ = some (.int .i64 op) := by rw [cell_of_row _ _ _ _ _ _ gA]; rfl
      have GB8 := Lib.hid (heap_below K8.out hw1 GB.out)
      have V8 := Lib.hid (V1.out.below K8.out (Nat.le_refl _))
      have B8 := Lib.hid (B1.out.below K8.out (Nat.le_refl _))
      have hks := K8.out.size
      have hq1 : w.heap.size < w8.heap.size := by omega
      have hq2 : w.heap.size + 1 < w8.heap.size := by omega
      have hm1 : m < w8.heap.size := by omega
      have hlen : (forB rs role op p bs).length ≤ 2000 := by
        unfold forB
        rw [List.length_append]
        have h1 := oneB_len rs role op 0 0 p
        have h2 := blks_len rs role op p bs
        have := HM20.out
        omega
      clear gA
      have hS0 : Below w8.heap.size w8 w8.drew := (Below.refl _ _).drew
      refine wp_region_held (S := fun W => Below w8.heap.size w8 W) (by kernel_rfl) ?_
      change wpAnyH _ _ _ _ _ _ _ _ w8.drew
      refine takeHg 0 rfl (some 50) rfl (.agg r.cells.toArray) (by kernel_rfl) (by kernel_rfl) (by kernel_rfl) (by kernel_rfl) (fun _ _ _ h => h) (fun W hW => runLdMid 68 (.tmp 7) rfl m 0 rfl r.cells.toArray (rangeAt_row (heap_below hW hm1 Ra.out)) _ Try.underlying68 rfl infoR) hS0 ?_
      simp only [Act.put, List.setIfInBounds_toArray, List.set_cons_zero, List.set_cons_succ]
      refine takeHg 1 rfl (some 51) rfl (.agg r.cells.toArray) (by kernel_rfl) (by kernel_rfl) (by kernel_rfl) (by kernel_rfl) (fun _ _ _ h => h) (fun W hW => runLdMid 68 (.tmp 9) rfl m2 0 rfl r.cells.toArray (rangeAt_row (heap_below hW l3 Rb.out)) _ Try.underlying68 rfl infoR) hS0 ?_
      simp only [Act.put, List.setIfInBounds_toArray, List.set_cons_zero, List.set_cons_succ]
      refine takeHg 2 rfl (some 52) rfl (.bool true) (by kernel_rfl) (by kernel_rfl) (by kernel_rfl) (by kernel_rfl) (fun _ _ _ h => h) (fun _ _ => opEqR (.tmp 50) (.tmp 51) _ rfl r rfl rfl) hS0 ?_
      simp only [Act.put, List.setIfInBounds_toArray, List.set_cons_zero, List.set_cons_succ]
      refine takeHg 3 rfl (some 53) rfl (.bool true) (by kernel_rfl) (by kernel_rfl) (by kernel_rfl) (by kernel_rfl) (fun _ _ _ h => h) (fun _ _ => by kernel_rfl) hS0 ?_
      simp only [Act.put, List.setIfInBounds_toArray, List.set_cons_zero, List.set_cons_succ]
      refine takeHg 4 rfl (some 54) rfl (.bool k) (by kernel_rfl) (by kernel_rfl) (by kernel_rfl) (by kernel_rfl) (fun _ _ _ h => h) (fun _ _ => by kernel_rfl) hS0 ?_
      simp only [Act.put, List.setIfInBounds_toArray, List.set_cons_zero, List.set_cons_succ]
      refine takeHg 5 rfl (some 55) rfl (.bool k) (by kernel_rfl) (by kernel_rfl) (by kernel_rfl) (by kernel_rfl) (fun _ _ _ h => h) (fun _ _ => by kernel_rfl) hS0 ?_
      simp only [Act.put, List.setIfInBounds_toArray, List.set_cons_zero, List.set_cons_succ]
      refine takeHg 6 rfl (some 56) rfl (.bool true) (by kernel_rfl) (by kernel_rfl) (by kernel_rfl) (by kernel_rfl) (fun _ _ _ h => h) (fun _ _ => by cases k <;> kernel_rfl) hS0 ?_
      simp only [Act.put, List.setIfInBounds_toArray, List.set_cons_zero, List.set_cons_succ]
      refine takeHg 7 rfl (some 57) rfl (.bool true) (by kernel_rfl) (by kernel_rfl) (by kernel_rfl) (by kernel_rfl) (fun _ _ _ h => h) (fun _ _ => by kernel_rfl) hS0 ?_
      simp only [Act.put, List.setIfInBounds_toArray, List.set_cons_zero, List.set_cons_succ]
      refine takeHg 8 rfl (some 58) rfl (.bool true) (by kernel_rfl) (by kernel_rfl) (by kernel_rfl) (by kernel_rfl) (fun _ _ _ h => h) (fun _ _ => by kernel_rfl) hS0 ?_
      simp only [Act.put, List.setIfInBounds_toArray, List.set_cons_zero, List.set_cons_succ]
      refine takeHg 9 rfl (some 59) rfl (v) (by kernel_rfl) (by kernel_rfl) (by kernel_rfl) (by kernel_rfl) (fun _ _ _ h => h) (fun _ _ => by kernel_rfl) hS0 ?_
      simp only [Act.put, List.setIfInBounds_toArray, List.set_cons_zero, List.set_cons_succ]
      refine takeHg 10 rfl (some 60) rfl (.pointer (some ⟨w.heap.size + 1, 0, none⟩)) (by kernel_rfl) (by kernel_rfl) (by kernel_rfl) (by kernel_rfl) (fun _ _ _ h => h) (fun _ _ => by kernel_rfl) hS0 ?_
      simp only [Act.put, List.setIfInBounds_toArray, List.set_cons_zero, List.set_cons_succ]
      refine takeHg 11 rfl (some 61) rfl (.int .i64 role) (by kernel_rfl) (by kernel_rfl) (by kernel_rfl) (by kernel_rfl) (fun _ _ _ h => h) (fun W hW => runLdInt (.tmp 60) rfl ⟨w.heap.size + 1, 0, none⟩ rfl _ (by rw [hW.cell (p := ⟨w.heap.size + 1, 0, none⟩) hq2]; exact c0)) hS0 ?_
      simp only [Act.put, List.setIfInBounds_toArray, List.set_cons_zero, List.set_cons_succ]
      refine takeHg 12 rfl (some 62) rfl (.pointer (some ⟨w.heap.size + 1, 1, none⟩)) (by kernel_rfl) (by kernel_rfl) (by kernel_rfl) (by kernel_rfl) (fun _ _ _ h => h) (fun _ _ => by kernel_rfl) hS0 ?_
      simp only [Act.put, List.setIfInBounds_toArray, List.set_cons_zero, List.set_cons_succ]
      refine takeHg 13 rfl (some 63) rfl (.int .i64 op) (by kernel_rfl) (by kernel_rfl) (by kernel_rfl) (by kernel_rfl) (fun _ _ _ h => h) (fun W hW => runLdInt (.tmp 62) rfl ⟨w.heap.size + 1, 1, none⟩ rfl _ (by rw [hW.cell (p := ⟨w.heap.size + 1, 1, none⟩) hq2]; exact c1)) hS0 ?_
      simp only [Act.put, List.setIfInBounds_toArray, List.set_cons_zero, List.set_cons_succ]
      refine takeHg 14 rfl (some 64) rfl (.agg C) (by kernel_rfl) (by kernel_rfl) (by kernel_rfl) (by kernel_rfl) (fun _ _ _ h => h) (fun W hW => runLdMid 62 (.tmp 4) rfl w.heap.size 0 rfl C (rangeAt_row (heap_below hW hq1 GB8.out)) _ Try.underlying62 rfl (by rw [HCs.out]; exact infoBun)) hS0 ?_
      simp only [Act.put, List.setIfInBounds_toArray, List.set_cons_zero, List.set_cons_succ]
      refine takeHg 16 rfl (some 66) rfl (v) (by kernel_rfl) (by kernel_rfl) (by kernel_rfl) (by kernel_rfl) (fun _ _ _ h => h) (fun _ _ => by kernel_rfl) hS0 ?_
      simp only [Act.put, List.setIfInBounds_toArray, List.set_cons_zero, List.set_cons_succ]
      refine takeHg 17 rfl (some 67) rfl (.pointer (some ⟨w.heap.size + 1, 0, none⟩)) (by kernel_rfl) (by kernel_rfl) (by kernel_rfl) (by kernel_rfl) (fun _ _ _ h => h) (fun _ _ => by kernel_rfl) hS0 ?_
      simp only [Act.put, List.setIfInBounds_toArray, List.set_cons_zero, List.set_cons_succ]
      refine takeHg 18 rfl (some 68) rfl (.int .i64 role) (by kernel_rfl) (by kernel_rfl) (by kernel_rfl) (by kernel_rfl) (fun _ _ _ h => h) (fun W hW => runLdInt (.tmp 67) rfl ⟨w.heap.size + 1, 0, none⟩ rfl _ (by rw [hW.cell (p := ⟨w.heap.size + 1, 0, none⟩) hq2]; exact c0)) hS0 ?_
      simp only [Act.put, List.setIfInBounds_toArray, List.set_cons_zero, List.set_cons_succ]
      refine takeHg 19 rfl (some 69) rfl (.pointer (some ⟨w.heap.size + 1, 1, none⟩)) (by kernel_rfl) (by kernel_rfl) (by kernel_rfl) (by kernel_rfl) (fun _ _ _ h => h) (fun _ _ => by kernel_rfl) hS0 ?_
      simp only [Act.put, List.setIfInBounds_toArray, List.set_cons_zero, List.set_cons_succ]
      refine takeHg 20 rfl (some 70) rfl (.int .i64 op) (by kernel_rfl) (by kernel_rfl) (by kernel_rfl) (by kernel_rfl) (fun _ _ _ h => h) (fun W hW => runLdInt (.tmp 69) rfl ⟨w.heap.size + 1, 1, none⟩ rfl _ (by rw [hW.cell (p := ⟨w.heap.size + 1, 1, none⟩) hq2]; exact c1)) hS0 ?_
      simp only [Act.put, List.setIfInBounds_toArray, List.set_cons_zero, List.set_cons_succ]
      refine takeHg 21 rfl (some 71) rfl (.agg C) (by kernel_rfl) (by kernel_rfl) (by kernel_rfl) (by kernel_rfl) (fun _ _ _ h => h) (fun W hW => runLdMid 62 (.tmp 4) rfl w.heap.size 0 rfl C (rangeAt_row (heap_below hW hq1 GB8.out)) _ Try.underlying62 rfl (by rw [HCs.out]; exact infoBun)) hS0 ?_
      simp only [Act.put, List.setIfInBounds_toArray, List.set_cons_zero, List.set_cons_succ]
      refine oneHg 15 rfl (by kernel_rfl) (by kernel_rfl) fun K hK => ?_
      refine wpH_callE (some 65) rfl 38 #[v, .int .i64 role, .int .i64 op, .agg C] (by kernel_rfl) _ (HF1.out _ (V8.out.below hS0 (Nat.le_refl _)) (B8.out.below hS0 (Nat.le_refl _)) HN20.out HM20.out) fun u1 wc1 hc1 => ?_
      simp only [Act.put, List.setIfInBounds_toArray, List.set_cons_zero, List.set_cons_succ]
      have hS1 : Below w8.heap.size w8 wc1 := hS0.trans (hc1.2.mono hS0.size)
      refine hK _ _ hS1 fun _ => ?_
      clear hK K
      refine oneHg 22 rfl (by kernel_rfl) (by kernel_rfl) fun K hK => ?_
      refine wpH_callE (some 72) rfl 39 #[v, .int .i64 role, .int .i64 op, .agg C] (by kernel_rfl) _ (HF2.out _ (V8.out.below hS1 (Nat.le_refl _)) (B8.out.below hS1 (Nat.le_refl _)) HN20.out HM20.out) fun u2 wc2 hc2 => ?_
      simp only [Act.put, List.setIfInBounds_toArray, List.set_cons_zero, List.set_cons_succ]
      have hS2 : Below w8.heap.size w8 wc2 := hS1.trans (hc2.2.mono hS1.size)
      refine hK _ _ hS2 fun _ => ?_
      clear hK K
      refine oneHg 23 rfl (by kernel_rfl) (by kernel_rfl) fun K hK => ?_
      refine wpH_call (some 73) rfl 37 #[u1, u2] (by kernel_rfl) _ _ (Same_any u1 u2 _ _ _ _ (hc1.1.below hc2.2) (hc2.1) hlen) fun wc3 hc3 => ?_
      simp only [Act.put, List.setIfInBounds_toArray, List.set_cons_zero, List.set_cons_succ]
      have hS3 : Below w8.heap.size w8 wc3 := hS2.trans (hc3.mono hS2.size)
      refine hK _ _ hS3 fun _ => ?_
      clear hK K
      refine takeHg 24 rfl (some 74) rfl (.bool true) (by kernel_rfl) (by kernel_rfl) (by kernel_rfl) (by kernel_rfl) (fun _ _ _ h => h) (fun _ _ => by kernel_rfl) hS3 ?_
      simp only [Act.put, List.setIfInBounds_toArray, List.set_cons_zero, List.set_cons_succ]
      refine takeHg 25 rfl (some 6) rfl (.bool true) (by kernel_rfl) (by kernel_rfl) (by kernel_rfl) (by kernel_rfl) (fun _ _ _ h => h) (fun _ _ => by kernel_rfl) hS3 ?_
      simp only [Act.put, List.setIfInBounds_toArray, List.set_cons_zero, List.set_cons_succ]
      refine wpAnyH_done (by kernel_rfl) ?_ _
      have HE := Lib.hid (GW.out.trans ((K8.out.trans (hS3.mono K8.out.size)).mono GW.out.size))
      clear hc1 hc2 hS1 hS2 hS3 hS0 c0 c1
      go_wp2
      go_ret
      exact ⟨rfl, HE.out⟩
end Go.Proofs.Ythoickghfjgmmaa.Pol
