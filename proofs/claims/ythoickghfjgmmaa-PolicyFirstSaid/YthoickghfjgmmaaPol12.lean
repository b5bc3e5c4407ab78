/-
  The law PolicyFirst, walked.
  Conditions: none.
-/
import Derived.Test.YthoickghfjgmmaaPol11
namespace Go.Proofs.Ythoickghfjgmmaa.Pol
open Go.ChangeShapes Go.WideShapes Go.ChangeAt Go.RowKit Go.Deep Go.Great Go.Proofs.Ythoickghfjgmmaa.Eid
theorem wpList_skip_g {P : Program} {ops : Array Oper} {rest : List Oper} {o : Oper} {a : Act} {w : World} {Q : Exit → Act → World → Prop} (hwt : Region.wanted o (yielded ops a.tmps) = false) (dst : Option Tmp) (hdst : o.dst = dst) (h : wpList P ops Q rest (a.put dst undef) w) : RowKit.Hid (wpList P ops Q (o :: rest) a w) :=
  Lib.hid (wpList_step fun K hK => by
    rw [if_neg (by simp [hwt])]
    subst hdst
    exact hK _ _ h)
theorem wpList_val_g {P : Program} {ops : Array Oper} {rest : List Oper} {o : Oper} {a : Act} {w : World} {Q : Exit → Act → World → Prop} (hwt : Region.wanted o (yielded ops a.tmps) = true) (dst : Option Tmp) (hdst : o.dst = dst) (v : Value)
    (hrun : (execOp a.eval o).run P w = .ok (.value v) w) (h : wpList P ops Q rest (a.put dst v) w) : wpList P ops Q (o :: rest) a w :=
  wpList_step fun K hK => by
    rw [if_pos hwt]
    unfold Oper.wp
    rw [hrun]
    subst hdst
    exact hK _ _ h
theorem builtRs (r : RuleB) : Try.prog.builtSlice 68 1 [(0, .agg r.cells.toArray)] = some r.cells.toArray := by kernel_rfl
theorem rules_one {w : World} {b : Nat} {r : RuleB} {t : TypeId} (h : w.heap[b]? = some (.cells r.cells.toArray t (0, 0))) (hok : r.ok) : RulesAt w (.slice (some ⟨b, 0, none⟩) 1 1) [r] := by
  refine ⟨⟨by unfold maxLen; simp, _, 1, rfl, Nat.le_refl _, by unfold maxLen; omega, .inr ⟨b, 0, rfl, (Array.getElem?_eq_some_iff.1 h).1, fun j cs hj i u hi => ?_⟩⟩, fun x hx => by rw [List.mem_singleton.1 hx]; exact hok⟩
  cases j with
  | zero =>
    simp only [List.map_cons, List.map_nil, List.getElem?_cons_zero, Option.some.injEq] at hj
    subst hj
    rw [cell_of_row w b _ _ _ _ h]
    simpa using hi
  | succ j => simp at hj
theorem heap_setCell {w : World} {b o : Nat} {v : Value} {c : Array Value} {t : TypeId} {fr : Nat × Nat} (h : w.heap[b]? = some (.cells c t fr)) : (w.setCell ⟨b, o, none⟩ v).heap[b]? = some (.cells (c.setIfInBounds o v) t fr) := by
  simp only [World.setCell, Array.getElem?_modify, if_pos rfl, h, Option.map_some]
  rfl
theorem stop_append {P : Program} {ops : Array Oper} {rest : List Oper} {o : Oper} {a : Act} {w : World} {Q : Exit → Act → World → Prop} {args : Array Operand} {tys : Array TypeId} (_ : o.op = .call { callee := .builtin .append, args := args, argTypes := tys }) (h : RowKit.Hid (wpList P ops Q (o :: rest) a w)) : wpList P ops Q (o :: rest) a w := h.out
theorem own_setm {w : World} {base : Nat} {e : TypeId} {size : Nat} {v : Value} {n : Nat} {xs : List Value} (h : w.ownsRow base e size v n xs) {m : Nat} (hm : ∀ k, v.ownBlock = some k → k < m) (b o : Nat) (x : Value) (hb : b = m := by rfl) : (w.setCell ⟨b, o, none⟩ x).ownsRow base e size v n xs := by
  subst hb
  obtain ⟨h1, h2⟩ := h
  refine ⟨h1, ?_⟩
  rcases h2 with h2 | ⟨g, cap, cur, rfl, c, d, f⟩
  · exact .inl h2
  · have hg := hm g rfl
    refine .inr ⟨g, cap, cur, rfl, c, ?_, f⟩
    rw [← d]
    simp only [World.setCell, Array.getElem?_modify]
    rw [if_neg (by omega)]
set_option maxHeartbeats 16000000 in
set_option maxRecDepth 100000 in
theorem PolicyFirst_any (v0 v1 bv : Value) (l0 l1 : List RuleB) (bs : List BlkB) (role op typ : Int) (p : PrimB) (w : World) (hv0 : RulesAt w v0 l0) (hv1 : RulesAt w v1 l1) (hbv : BlksAt w bv bs) (hp : p.ok) :
    Calls Try.prog 9 #[.agg #[v0, v1], .agg (bunCells p bv).toArray, .agg #[.int .i64 role, .int .i64 op, .int .i64 typ]] w fun e w' => e = .returned (.bool true) ∧ Below w.heap.size w w' := by
  have HPO := Lib.hid hp
  have HBF := Lib.hid fun (W : World) (h : BlksAt W bv bs) => bFew_any bv bs p W h
  obtain ⟨C, hC⟩ : ∃ C, (bunCells p bv).toArray = C := ⟨_, rfl⟩
  have hCl : C.toList = p.cells ++ [bv] := by rw [← hC]; rfl
  have HCl := Lib.hid hCl
  have hCs : C.size = 20 := by rw [← hC]; rfl
  have HCs := Lib.hid hCs
  rw [hC] at HBF
  rw [hC]
  clear hC hCl hCs hp
  obtain ⟨w1, hw1⟩ : ∃ w1, ((w.alloc (.cells #[v0, v1] 57)).alloc (.cells C 62)).alloc (.cells #[.int .i64 role, .int .i64 op, .int .i64 typ] 64) = w1 := ⟨_, rfl⟩
  have gS : w1.heap.size = w.heap.size + 1 + 1 + 1 := by rw [← hw1]; show (((w.heap.push _).push _).push _).size = _; simp
  have gL : w1.heap[w.heap.size]? = some (.cells #[v0, v1] 57 (0, 0)) := by rw [← hw1]; exact heap_under (heap_under (heap_alloc_last w _))
  have gB : w1.heap[w.heap.size + 1]? = some (.cells C 62 (0, 0)) := by rw [← hw1]; exact heap_under (heap_at (by show (w.heap.push _).size = _; simp))
  have gA : w1.heap[w.heap.size + 1 + 1]? = some (.cells #[.int .i64 role, .int .i64 op, .int .i64 typ] 64 (0, 0)) := by rw [← hw1]; exact heap_at (by show ((w.heap.push _).push _).size = _; simp)
  have gb : Below w.heap.size w w1 := by rw [← hw1]; exact (((Below.refl _ _).alloc (Nat.le_refl _) _).alloc (by show w.heap.size ≤ (w.heap.push _).size; simp) _).alloc (by show w.heap.size ≤ ((w.heap.push _).push _).size; simp; omega) _
  have V0 := Lib.hid (hv0.below gb (Nat.le_refl _))
  have V1 := Lib.hid (hv1.below gb (Nat.le_refl _))
  have B1 := Lib.hid (hbv.below gb (Nat.le_refl _))
  have OK0 := Lib.hid hv0.2
  have OK1 := Lib.hid hv1.2
  have GB := Lib.hid gB
  have GA := Lib.hid gA
  have GL := Lib.hid gL
  have GW := Lib.hid gb
  have GS := Lib.hid gS
  have hq0 : w.heap.size < w1.heap.size := by omega
  have hq1 : w.heap.size + 1 < w1.heap.size := by omega
  have hq2 : w.heap.size + 1 + 1 < w1.heap.size := by omega
  have CV0 := Lib.hid fun (W : World) (h : Below w1.heap.size w1 W) => show W.cell? ⟨w.heap.size, 0, none⟩ = some v0 by rw [cell_of_row _ _ _ _ _ _ (heap_below h hq0 gL)]; rfl
  have CV1 := Lib.hid fun (W : World) (h : Below w1.heap.size w1 W) => show W.cell? ⟨w.heap.size, 1, none⟩ = some v1 by rw [cell_of_row _ _ _ _ _ _ (heap_below h hq0 gL)]; rfl
  have CA0 := Lib.hid fun (W : World) (h : Below w1.heap.size w1 W) => show W.cell? ⟨w.heap.size + 1 + 1, 0, none⟩ = some (.int .i64 role) by rw [cell_of_row _ _ _ _ _ _ (heap_below h hq2 gA)]; rfl
  have CA1 := Lib.hid fun (W : World) (h : Below w1.heap.size w1 W) => show W.cell? ⟨w.heap.size + 1 + 1, 1, none⟩ = some (.int .i64 op) by rw [cell_of_row _ _ _ _ _ _ (heap_below h hq2 gA)]; rfl
  have CA2 := Lib.hid fun (W : World) (h : Below w1.heap.size w1 W) => show W.cell? ⟨w.heap.size + 1 + 1, 2, none⟩ = some (.int .i64 typ) by rw [cell_of_row _ _ _ _ _ _ (heap_below h hq2 gA)]; rfl
  clear gb gA gB gL hv0 hv1 hbv
  go_enter Try.func9, Try.ntmps9
  go_wp2_with fail
  clear hw1 gS
  refine (awake_pol _).mono ?_
  rintro e w2 ⟨rfl, hb2⟩
  have K2 := Lib.hid hb2
  have x0 := CV0.out _ hb2
  clear hb2
  go_wp2_with fail
  refine (rFew_any v0 l0 _ (V0.out.below K2.out (Nat.le_refl _))).mono ?_
  rintro e w3 ⟨⟨k1, rfl, hk1⟩, hb3⟩
  have K3 := Lib.hid (K2.out.trans (hb3.mono K2.out.size))
  have HK1 := Lib.hid hk1
  clear hk1 hb3 K2 x0
  cases k1 with
  | false =>
    go_wp2_with fail
    refine (awake_pol _).mono ?_
    rintro e w4 ⟨rfl, hb4⟩
    have K4 := Lib.hid (GW.out.trans ((K3.out.trans (hb4.mono K3.out.size)).mono GW.out.size))
    clear hb4
    go_wp2
    go_ret
    exact ⟨rfl, K4.out⟩
  | true =>
    have hn20 := HK1.out rfl
    have x1 := CV1.out _ K3.out
    have HN0 := Lib.hid hn20
    clear hn20
    go_wp2_with fail
    refine (rFew_any v1 l1 _ (V1.out.below K3.out (Nat.le_refl _))).mono ?_
    rintro e w4 ⟨⟨k2, rfl, hk2⟩, hb4⟩
    have K4 := Lib.hid (K3.out.trans (hb4.mono K3.out.size))
    have HK2 := Lib.hid hk2
    clear hk2 hb4 K3 x1
    cases k2 with
    | false =>
      go_wp2_with fail
      refine (awake_pol _).mono ?_
      rintro e w5 ⟨rfl, hb5⟩
      have K5 := Lib.hid (GW.out.trans ((K4.out.trans (hb5.mono K4.out.size)).mono GW.out.size))
      clear hb5
      go_wp2
      go_ret
      exact ⟨rfl, K5.out⟩
    | true =>
      have HN1 := Lib.hid (HK2.out rfl)
      go_wp2_with (with_reducible refine stop_load 62 rfl ?_)
      refine load_mid_g 62 (.tmp 4) rfl rfl (some 32) rfl (w.heap.size + 1) 0 rfl C (rangeAt_row (heap_below K4.out hq1 GB.out)) _ Try.underlying62 rfl (by rw [HCs.out]; exact infoBun) ?_
      go_wp2_with fail
      refine (HBF.out _ (B1.out.below K4.out (Nat.le_refl _))).mono ?_
      rintro e w5 ⟨⟨k3, rfl, hk3⟩, hb5⟩
      have K5 := Lib.hid (K4.out.trans (hb5.mono K4.out.size))
      clear hk3 hb5 K4 HBF B1
      cases k3 with
      | false =>
        go_wp2_with fail
        refine (awake_pol _).mono ?_
        rintro e w6 ⟨rfl, hb6⟩
        have K6 := Lib.hid (GW.out.trans ((K5.out.trans (hb6.mono K5.out.size)).mono GW.out.size))
        clear hb6
        go_wp2
        go_ret
        exact ⟨rfl, K6.out⟩
      | true =>
        have x0 := CV0.out _ K5.out
        have y0 := CA0.out _ K5.out
        have y1 := CA1.out _ K5.out
        have y2 := CA2.out _ K5.out
        go_wp2_with (with_reducible refine stop_load 59 rfl ?_)
        refine load_mid 59 (.tmp 44) rfl rfl (some 45) rfl (w.heap.size + 1) 0 rfl p.cells.toArray (bun_range HCl.out (heap_below K5.out hq1 GB.out)) _ Try.underlying59 rfl infoP ?_
        go_wp2_with fail
        refine (Pick_any v0 l0 role op typ p _ (V0.out.below K5.out (Nat.le_refl _)) (by have := HN0.out; omega) HPO.out).mono ?_
        rintro e wa0 ⟨rfl, hba0⟩
        rw [pickV_eq]
        obtain ⟨f0, hf0⟩ : ∃ f0, pickB l0 role op typ p = f0 := ⟨_, rfl⟩
        rw [hf0]
        have HF0 := Lib.hid hf0
        have K6 := Lib.hid (K5.out.trans (hba0.mono K5.out.size))
        clear hba0 K5 hf0 x0 y0 y1 y2
        go_wp2_with (with_reducible refine stop_store 68 rfl ?_)
        refine store_row 68 (.tmp 7) (.tmp 49) rfl rfl rfl wa0.heap.size (getR f0).cells.toArray rfl rfl 68 zeroR.cells.toArray (heap_alloc_last wa0 _) infoR rfl (oneR _) ?_
        rw [World.setRow_alloc_new]
        have j1 : Below w1.heap.size w1 (wa0.alloc (.cells (getR f0).cells.toArray 68)) := K6.out.alloc K6.out.size _
        have j2 := heap_alloc_last wa0 (.cells (getR f0).cells.toArray 68)
        have j3 : wa0.heap.size < (wa0.alloc (.cells (getR f0).cells.toArray 68)).heap.size := lt_of_last
        have j4 := K6.out.size
        have K7 := Lib.hid j1
        have R7 := Lib.hid j2
        clear j1 j2 K6
        generalize wa0.alloc (.cells (getR f0).cells.toArray 68) = w7 at *
        generalize wa0.heap.size = m0 at *
        have x0 := CV0.out _ K7.out
        have x1 := CV1.out _ K7.out
        go_wp2_with (at_builtin; refine RowKit.Hid.out ?_)
        refine Lib.hid ?_
        refine app_rules (w0 := w7) rfl (some 54) rfl (.tmp 51) (.tmp 53) rfl (.slice none 0 0) v0 [] l0 w7.heap.size rfl rfl (World.ownsRow_nil _ _ _ _) (V0.out.below K7.out (Nat.le_refl _)) (by have := HN0.out; simp; omega) (Nat.le_refl _) (Below.refl _ _) ?_
        intro u8 w8 ho8 hb8
        rw [List.nil_append] at ho8
        have K8 := Lib.hid (K7.out.trans (hb8.mono K7.out.size))
        have HO8 := Lib.hid ho8
        have HB8 := Lib.hid hb8
        have hs8 := hb8.size
        clear ho8 hb8 x0 x1
        have x1 := CV1.out _ K8.out
        show wpList _ _ _ _ (Act.put _ (some 54) _) _
        go_wp2_with (at_builtin; refine RowKit.Hid.out ?_)
        refine Lib.hid ?_
        refine app_rules (w0 := w7) rfl (some 58) rfl (.tmp 55) (.tmp 57) rfl u8 v1 l0 l1 w7.heap.size rfl rfl HO8.out (V1.out.below K8.out (Nat.le_refl _)) (by have := HN0.out; have := HN1.out; omega) hs8 HB8.out ?_
        intro u9 w9 ho9 hb9
        have K9 := Lib.hid (K7.out.trans (hb9.mono K7.out.size))
        have hs9 := hb9.size
        have okall : ∀ r ∈ l0 ++ l1, r.ok := fun r hr => (List.mem_append.1 hr).elim (OK0.out r) (OK1.out r)
        have ALL := Lib.hid (OwnRules.rules ho9 okall (by have := HN0.out; have := HN1.out; rw [List.length_append]; omega))
        have R9 := Lib.hid (heap_below hb9 j3 R7.out)
        have hm9 : m0 < w9.heap.size := by omega
        clear ho9 hb9 HO8 HB8 okall x1 K8
        show wpList _ _ _ _ (Act.put _ (some 58) _) _
        obtain ⟨a1, c1, hvf, hx1⟩ := V1.out.form
        obtain ⟨n1, hn1⟩ : ∃ n1, l1.length = n1 := ⟨_, rfl⟩
        have hn120 := HN1.out
        rw [hn1] at hvf hn120
        subst hvf
        have HX1 := Lib.hid hx1
        have HL1 := Lib.hid hn1
        clear hx1 hn1
        go_wp2_with fail
        go_loopw [10, 11] (fun s10 s11 wr => ∃ i : Nat, i ≤ n1 ∧ s11 = .int .i64 (i : Int) ∧ Hid (OwnRules wr w9.heap.size s10 ((l1.take i).map (bumpB role op))) ∧ Below w9.heap.size w9 wr) (fun _ s _ => n1 - (intOf s).toNat)
        case atStart => exact ⟨0, by omega, rfl, Lib.hid (World.ownsRow_nil _ _ _ _), Below.refl _ _⟩
        case round =>
          obtain ⟨i, hi, rfl, hor, hbr⟩ := hrel
          have hbs := hbr.size
          have KR := Lib.hid (K9.out.trans (hbr.mono K9.out.size))
          have x1 := CV1.out _ KR.out
          by_cases hend : i = n1
          · have hlt : ¬ (i : Int) < (n1 : Int) := by omega
            have hfin := hor.out
            rw [hend, ← HL1.out, List.take_length] at hfin
            have HFIN := Lib.hid hfin
            have HBR := Lib.hid hbr
            have x0 := CV0.out _ KR.out
            clear hend hfin hor hbr
            have okm : ∀ r ∈ l1.map (bumpB role op) ++ l0, r.ok := fun r hr => (List.mem_append.1 hr).elim (fun h => by
              obtain ⟨x, hx, rfl⟩ := List.mem_map.1 h
              exact bump_ok (OK1.out x hx)) (OK0.out r)
            have OKM := Lib.hid okm
            have PM := Lib.hid (pick_mixed (l0 := l0) (role := role) (op := op) (typ := typ) (p := p) OK1.out)
            have PA := Lib.hid fun r h => pick_all (l0 := l0) (l1 := l1) (role := role) (op := op) (typ := typ) (p := p) (r := r) h
            clear okm
            go_wp2_with (with_reducible refine stop_append rfl ?_)
            refine Lib.hid ?_
            refine app_rules (w0 := w9) rfl (some 94) rfl (.tmp 91) (.tmp 93) rfl u10 v0 (l1.map (bumpB role op)) l0 w9.heap.size rfl rfl HFIN.out (V0.out.below KR.out (Nat.le_refl _)) (by have := HN0.out; have := HN1.out; rw [List.length_map]; omega) hbs HBR.out ?_
            intro u11 w10 ho10 hb10
            have K10 := Lib.hid (K9.out.trans (hb10.mono K9.out.size))
            have MIX := Lib.hid (OwnRules.rules ho10 OKM.out (by have := HN0.out; have := HN1.out; rw [List.length_append, List.length_map]; omega))
            have ALL10 := Lib.hid (ALL.out.below hb10 (Nat.le_refl _))
            have R10 := Lib.hid (heap_below hb10 hm9 R9.out)
            have hm10 : m0 < w10.heap.size := by have := hb10.size; omega
            clear ho10 hb10 x0 x1 HBR KR HFIN
            show wpList _ _ _ _ (Act.put _ (some 94) _) _
            have y0 := CA0.out _ K10.out
            have y1 := CA1.out _ K10.out
            have y2 := CA2.out _ K10.out
            go_wp2_with (with_reducible refine stop_load 59 rfl ?_)
            refine load_mid 59 (.tmp 101) rfl rfl (some 102) rfl (w.heap.size + 1) 0 rfl p.cells.toArray (bun_range HCl.out (heap_below K10.out hq1 GB.out)) _ Try.underlying59 rfl infoP ?_
            go_wp2_with fail
            refine (Pick_any u9 (l0 ++ l1) role op typ p _ (ALL10.out) (by have := HN0.out; have := HN1.out; simp only [List.length_append, List.length_map]; omega) HPO.out).mono ?_
            rintro e wa1 ⟨rfl, hba1⟩
            rw [pickV_eq]
            obtain ⟨f1, hf1⟩ : ∃ f1, pickB (l0 ++ l1) role op typ p = f1 := ⟨_, rfl⟩
            rw [hf1]
            have HF1 := Lib.hid hf1
            have K11 := Lib.hid (K10.out.trans (hba1.mono K10.out.size))
            have MIX11 := Lib.hid (MIX.out.below hba1 (Nat.le_refl _))
            have R11 := Lib.hid (heap_below hba1 hm10 R10.out)
            have hm11 : m0 < wa1.heap.size := by have := hba1.size; omega
            clear hba1 K10 MIX R10 ALL10 hf1 y0 y1 y2
            go_wp2_with (with_reducible refine stop_store 68 rfl ?_)
            refine store_row 68 (.tmp 13) (.tmp 106) rfl rfl rfl wa1.heap.size (getR f1).cells.toArray rfl rfl 68 zeroR.cells.toArray (heap_alloc_last wa1 _) infoR rfl (oneR _) ?_
            rw [World.setRow_alloc_new]
            have K12 := Lib.hid (K11.out.alloc K11.out.size (.cells (getR f1).cells.toArray 68))
            have MIX12 := Lib.hid (MIX11.out.below (n := wa1.heap.size) ((Below.refl _ wa1).alloc (Nat.le_refl _) (.cells (getR f1).cells.toArray 68)) (Nat.le_refl _))
            have R12 := Lib.hid (heap_under (o := .cells (getR f1).cells.toArray 68) R11.out)
            have S12 := Lib.hid (heap_alloc_last wa1 (.cells (getR f1).cells.toArray 68))
            have hs12 : wa1.heap.size < (wa1.alloc (.cells (getR f1).cells.toArray 68)).heap.size := lt_of_last
            clear K11 MIX11 R11
            generalize wa1.alloc (.cells (getR f1).cells.toArray 68) = w12 at *
            generalize wa1.heap.size = m1 at *
            have y0 := CA0.out _ K12.out
            have y1 := CA1.out _ K12.out
            have y2 := CA2.out _ K12.out
            go_wp2_with (with_reducible refine stop_load 59 rfl ?_)
            refine load_mid 59 (.tmp 114) rfl rfl (some 115) rfl (w.heap.size + 1) 0 rfl p.cells.toArray (bun_range HCl.out (heap_below K12.out hq1 GB.out)) _ Try.underlying59 rfl infoP ?_
            go_wp2_with fail
            refine (Pick_any u11 (l1.map (bumpB role op) ++ l0) role op typ p _ (MIX12.out) (by have := HN0.out; have := HN1.out; simp only [List.length_append, List.length_map]; omega) HPO.out).mono ?_
            rintro e wa2 ⟨rfl, hba2⟩
            rw [pickV_eq]
            rw [PM.out, HF0.out]
            have K13 := Lib.hid (K12.out.trans (hba2.mono K12.out.size))
            have R13 := Lib.hid (heap_below hba2 (by omega) R12.out)
            have S13 := Lib.hid (heap_below hba2 hs12 S12.out)
            have hm13 : m1 < wa2.heap.size := by have := hba2.size; omega
            clear hba2 K12 MIX12 R12 S12 y0 y1 y2
            go_wp2_with (with_reducible refine stop_store 68 rfl ?_)
            refine store_row 68 (.tmp 15) (.tmp 119) rfl rfl rfl wa2.heap.size (getR f0).cells.toArray rfl rfl 68 zeroR.cells.toArray (heap_alloc_last wa2 _) infoR rfl (oneR _) ?_
            rw [World.setRow_alloc_new]
            have K14 := Lib.hid (K13.out.alloc K13.out.size (.cells (getR f0).cells.toArray 68))
            have R14 := Lib.hid (heap_under (o := .cells (getR f0).cells.toArray 68) R13.out)
            have S14 := Lib.hid (heap_under (o := .cells (getR f0).cells.toArray 68) S13.out)
            have T14 := Lib.hid (heap_alloc_last wa2 (.cells (getR f0).cells.toArray 68))
            clear K13 R13 S13
            generalize wa2.alloc (.cells (getR f0).cells.toArray 68) = w14 at *
            generalize wa2.heap.size = m2 at *
            have HE := Lib.hid (GW.out.trans (K14.out.mono GW.out.size))
            cases f0 with
            | none =>
              have e1 : Option.isSome (none : Option RuleB) = false := rfl
              rw [e1]
              clear e1
              go_wp2_with (with_reducible refine stop_load 68 rfl ?_)
              refine load_mid_g 68 (.tmp 15) rfl rfl (some 137) rfl m2 0 rfl (getR none).cells.toArray (rangeAt_row T14.out) _ Try.underlying68 rfl infoR ?_
              go_wp2_with (with_reducible refine stop_load 68 rfl ?_)
              refine load_mid_g 68 (.tmp 7) rfl rfl (some 138) rfl m0 0 rfl (getR none).cells.toArray (rangeAt_row R14.out) _ Try.underlying68 rfl infoR ?_
              refine wpList_val_g (by kernel_rfl) (some 139) rfl (.bool true) (opEqR (.tmp 137) (.tmp 138) _ rfl (getR none) rfl rfl) ?_
              go_wp2
              go_ret
              exact ⟨rfl, HE.out⟩
            | some r0 =>
              have hf1 := HF1.out
              rw [PA.out r0 HF0.out] at hf1
              subst hf1
              have e1 : Option.isSome (some r0) = true := rfl
              rw [e1]
              clear e1
              go_wp2_with (with_reducible refine stop_load 68 rfl ?_)
              refine load_mid_g 68 (.tmp 13) rfl rfl (some 126) rfl m1 0 rfl (getR (some r0)).cells.toArray (rangeAt_row S14.out) _ Try.underlying68 rfl infoR ?_
              go_wp2_with (with_reducible refine stop_load 68 rfl ?_)
              refine load_mid_g 68 (.tmp 7) rfl rfl (some 127) rfl m0 0 rfl (getR (some r0)).cells.toArray (rangeAt_row R14.out) _ Try.underlying68 rfl infoR ?_
              refine wpList_val_g (by kernel_rfl) (some 128) rfl (.bool true) (opEqR (.tmp 126) (.tmp 127) _ rfl (getR (some r0)) rfl rfl) ?_
              go_wp2_with (with_reducible refine stop_load 68 rfl ?_)
              refine load_mid_g 68 (.tmp 15) rfl rfl (some 137) rfl m2 0 rfl (getR (some r0)).cells.toArray (rangeAt_row T14.out) _ Try.underlying68 rfl infoR ?_
              go_wp2_with (with_reducible refine stop_load 68 rfl ?_)
              refine load_mid_g 68 (.tmp 7) rfl rfl (some 138) rfl m0 0 rfl (getR (some r0)).cells.toArray (rangeAt_row R14.out) _ Try.underlying68 rfl infoR ?_
              refine wpList_val_g (by kernel_rfl) (some 139) rfl (.bool true) (opEqR (.tmp 137) (.tmp 138) _ rfl (getR (some r0)) rfl rfl) ?_
              go_wp2
              go_ret
              exact ⟨rfl, HE.out⟩
          · have hlt : (i : Int) < (n1 : Int) := by omega
            obtain ⟨r, hr⟩ : ∃ r, l1[i]? = some r := ⟨l1[i]'(by rw [HL1.out]; omega), List.getElem?_eq_getElem (by rw [HL1.out]; omega)⟩
            obtain ⟨b, o, rfl, hbw, hra⟩ := HX1.out i r hr
            have HRA := Lib.hid (rangeAt_below hra KR.out hbw)
            have HROK := Lib.hid (OK1.out r (List.mem_of_getElem? hr))
            have hnx : (l1.take (i + 1)).map (bumpB role op) = (l1.take i).map (bumpB role op) ++ [bumpB role op r] := by rw [List.take_add_one, hr, List.map_append]; rfl
            have HNX := Lib.hid hnx
            have HLN := Lib.hid (show ((l1.take i).map (bumpB role op)).length ≤ 20 by rw [List.length_map, List.length_take]; omega)
            have HBR := Lib.hid hbr
            clear hend hr hra hnx hbr
            go_wp2_with (with_reducible refine stop_load 68 rfl ?_)
            refine load_mid 68 (.tmp 69) rfl rfl (some 70) rfl b (o + i * 17) rfl r.cells.toArray HRA.out _ Try.underlying68 rfl infoR ?_
            go_wp2_with (with_reducible refine stop_store 68 rfl ?_)
            refine store_row 68 (.tmp 12) (.tmp 70) rfl rfl rfl wr.heap.size r.cells.toArray rfl rfl 68 zeroR.cells.toArray (heap_alloc_last wr _) infoR rfl (oneR _) ?_
            rw [World.setRow_alloc_new]
            have l2 := heap_alloc_last wr (.cells r.cells.toArray 68)
            have l3 : wr.heap.size < (wr.alloc (.cells r.cells.toArray 68)).heap.size := lt_of_last
            have M1 := Lib.hid (HBR.out.alloc hbs (.cells r.cells.toArray 68))
            have M2 := Lib.hid (World.ownsRow.alloc hor.out (.cells r.cells.toArray 68))
            have MK := Lib.hid (KR.out.alloc KR.out.size (.cells r.cells.toArray 68))
            have d0 : (wr.alloc (.cells r.cells.toArray 68)).cell? ⟨wr.heap.size, 0, none⟩ = some (.int .i64 r.role) := by rw [cell_of_row _ _ _ _ _ _ l2]; rfl
            have d1 : (wr.alloc (.cells r.cells.toArray 68)).cell? ⟨wr.heap.size, 1, none⟩ = some (.int .i64 r.op) := by rw [cell_of_row _ _ _ _ _ _ l2]; rfl
            have d2 : (wr.alloc (.cells r.cells.toArray 68)).frozen? ⟨wr.heap.size, 0, none⟩ = false := by unfold World.frozen?; rw [l2]; rfl
            have y0 := CA0.out _ MK.out
            have y1 := CA1.out _ MK.out
            have L2 := Lib.hid l2
            have MH := Lib.hid (fun k (hk : u10.ownBlock = some k) => (World.ownsRow.lt hor.out k hk).2)
            clear l2 HBR hor x1 KR
            generalize wr.alloc (.cells r.cells.toArray 68) = W1 at *
            generalize wr.heap.size = m at *
            by_cases hbump : r.role = role ∧ r.op = op
            · obtain ⟨r2, hr2⟩ : ∃ r2, bumpB role op r = r2 := ⟨_, rfl⟩
              have HR2 := Lib.hid (show r2.ok by rw [← hr2]; exact bump_ok HROK.out)
              have hce : r.cells.toArray.setIfInBounds 0 (.int .i64 (wrap64 (role + 1))) = r2.cells.toArray := by rw [← hr2, bump_yes hbump]; rfl
              have HCE := Lib.hid hce
              rw [hr2] at HNX
              clear hr2 hce
              go_wp2_with (with_reducible refine stop_load 68 rfl ?_)
              have hh : (W1.setCell ⟨m, 0, none⟩ (.int .i64 (wrap64 (role + 1)))).heap[m]? = some (.cells r2.cells.toArray 68 (0, 0)) := by rw [← HCE.out]; exact heap_setCell L2.out
              refine load_mid 68 (.tmp 12) rfl rfl (some 88) rfl m 0 rfl r2.cells.toArray (rangeAt_row hh) _ Try.underlying68 rfl infoR ?_
              have N2 := Lib.hid (own_setm M2.out MH.out m 0 (.int .i64 (wrap64 (role + 1))))
              have N1 := Lib.hid (M1.out.setCell (p := ⟨m, 0, none⟩) hbs (.int .i64 (wrap64 (role + 1))))
              have hNs : w9.heap.size ≤ (W1.setCell ⟨m, 0, none⟩ (.int .i64 (wrap64 (role + 1)))).heap.size := by show _ ≤ (W1.heap.modify _ _).size; rw [Array.size_modify]; omega
              clear hh d0 d1 d2 y0 y1 M1 M2 MK L2
              generalize W1.setCell ⟨m, 0, none⟩ (.int .i64 (wrap64 (role + 1))) = W2 at *
              have n1 := Lib.hid (World.ownsRow.alloc N2.out (.cells r2.cells.toArray 68))
              have n2 := Lib.hid (N1.out.alloc hNs (.cells r2.cells.toArray 68))
              have n3 := heap_alloc_last W2 (.cells r2.cells.toArray 68)
              have n4 : w9.heap.size ≤ (W2.alloc (.cells r2.cells.toArray 68)).heap.size := by have : W2.heap.size < (W2.alloc (.cells r2.cells.toArray 68)).heap.size := lt_of_last; omega
              refine wpList_buildSliceTo rfl 56 68 1 _ rfl W2.heap.size rfl (some 89) rfl Try.underlying56 r2.cells.toArray (Eq.trans (congrArg (Go.Program.builtSlice Try.prog 68 1) (by kernel_rfl)) (builtRs r2)) ?_
              refine app_rules (w0 := w9) rfl (some 90) rfl (.tmp 87) (.tmp 89) rfl u10 (.slice (some ⟨W2.heap.size, 0, none⟩) 1 1) ((l1.take i).map (bumpB role op)) [r2] w9.heap.size rfl rfl n1.out (rules_one n3 HR2.out) (by have := HLN.out; simp only [List.length_singleton]; omega) n4 n2.out ?_
              intro uu ww hoo hbb
              have OO := Lib.hid (show OwnRules ww w9.heap.size uu ((l1.take (i + 1)).map (bumpB role op)) by rw [HNX.out]; exact hoo)
              have BB := Lib.hid hbb
              clear hoo hbb n1 n2 n3
              go_wp2
              go_round
              case rel => exact ⟨i + 1, by omega, by go_num, OO, BB.out⟩
              case measure => simp [intOf]; omega
            · have HR2 := Lib.hid (show r.ok from HROK.out)
              rw [bump_no hbump] at HNX
              go_wp2_with (with_reducible refine stop_load 68 rfl ?_)
              all_goals
                refine load_mid 68 (.tmp 12) rfl rfl (some 88) rfl m 0 rfl r.cells.toArray (rangeAt_row L2.out) _ Try.underlying68 rfl infoR ?_
                have N2 := Lib.hid M2.out
                have N1 := Lib.hid M1.out
                have hNs : w9.heap.size ≤ W1.heap.size := by omega
                clear d0 d1 d2 y0 y1 M1 M2 MK L2
                have n1 := Lib.hid (World.ownsRow.alloc N2.out (.cells r.cells.toArray 68))
                have n2 := Lib.hid (N1.out.alloc hNs (.cells r.cells.toArray 68))
                have n3 := heap_alloc_last W1 (.cells r.cells.toArray 68)
                have n4 : w9.heap.size ≤ (W1.alloc (.cells r.cells.toArray 68)).heap.size := by have : W1.heap.size < (W1.alloc (.cells r.cells.toArray 68)).heap.size := lt_of_last; omega
                refine wpList_buildSliceTo rfl 56 68 1 _ rfl W1.heap.size rfl (some 89) rfl Try.underlying56 r.cells.toArray (Eq.trans (congrArg (Go.Program.builtSlice Try.prog 68 1) (by kernel_rfl)) (builtRs r)) ?_
                refine app_rules (w0 := w9) rfl (some 90) rfl (.tmp 87) (.tmp 89) rfl u10 (.slice (some ⟨W1.heap.size, 0, none⟩) 1 1) ((l1.take i).map (bumpB role op)) [r] w9.heap.size rfl rfl n1.out (rules_one n3 HR2.out) (by have := HLN.out; simp only [List.length_singleton]; omega) n4 n2.out ?_
                intro uu ww hoo hbb
                have OO := Lib.hid (show OwnRules ww w9.heap.size uu ((l1.take (i + 1)).map (bumpB role op)) by rw [HNX.out]; exact hoo)
                have BB := Lib.hid hbb
                clear hoo hbb n1 n2 n3
                go_wp2
                go_round
                case rel => exact ⟨i + 1, by omega, by go_num, OO, BB.out⟩
                case measure => simp [intOf]; omega
end Go.Proofs.Ythoickghfjgmmaa.Pol
