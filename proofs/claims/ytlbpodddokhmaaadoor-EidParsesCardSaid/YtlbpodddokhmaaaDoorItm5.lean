/-
  The walks of item.Right, same and Same: whether two items are one.
  Conditions: none.
-/
import Derived.Test.YtlbpodddokhmaaaDoorItm4
import Derived.Test.YtlbpodddokhmaaaDoorHeld
namespace Go.Proofs.YtlbpodddokhmaaaDoor.Itm
open Go.ChangeShapes Go.WideShapes Go.ChangeAt Go.RowKit Go.Deep
set_option maxRecDepth 100000 in
theorem iRight_any (t : Tr) (cs : List Value) (w : World) (h : TAt w t cs) : Calls Tryd.prog 32 #[.agg cs.toArray] w fun e w' => e = .returned (.bool (rightT 8 t)) ∧ Below w.heap.size w w' := by
  have HC := Lib.hid fun (W : World) (hb : Below w.heap.size w W) => right_any 8 (by omega) t cs W (h.keep hb (Nat.le_refl _))
  have h5 : cs.toArray.size = 5 := by obtain ⟨_, _, _, he, _⟩ := h.form; rw [he]; rfl
  generalize rightT 8 t = rb at *
  generalize cs.toArray = X at *
  have H5 := Lib.hid h5
  clear h h5
  go_enter Tryd.func32, Tryd.ntmps32
  go_wp2_with (with_reducible refine stop_load 33 rfl ?_)
  have gb : Below w.heap.size w (w.alloc (.cells X 33)) := (Below.refl _ _).alloc (Nat.le_refl _) _
  refine load_mid 33 (.tmp 1) rfl rfl (some 3) rfl w.heap.size 0 rfl X (rangeAt_row (heap_alloc_last w _)) _ Tryd.underlying33 rfl (by rw [H5.out]; exact infoI) ?_
  have GB := Lib.hid gb
  clear gb
  generalize w.alloc (.cells X 33) = w1 at *
  go_wp2_with fail
  refine (HC.out _ GB.out).mono ?_
  rintro e w2 ⟨rfl, hb2⟩
  have G2 := Lib.hid (GB.out.trans (hb2.mono GB.out.size))
  clear hb2
  go_wp2
  go_ret
  exact ⟨rfl, G2.out⟩
def SameP (a b : Tr) (e : Ending) : Prop := ∃ k, e = .returned (.bool k) ∧ (k = true ↔ a = b)
section
variable {P : Program} {ops : Array Oper} {Q : Exit → Act → World → Prop} {md : Region.Mode} {S : World → Prop}
/-- A call whose value is not known beforehand. -/
theorem wpH_callE {o : Oper} {a : Act} {w : World} {K : Act → World → Prop} (dst : Option Tmp) (hdst : o.dst = dst) (f : FuncId) (args : Array Value) (hrun : (execOp a.eval o).run P w = .ok (.enter f args) w) (R : Value → World → Prop)
    (hc : Calls P f args w fun e w' => ∃ v, e = .returned v ∧ R v w') (h : ∀ v w', R v w' → K (a.put dst v) w') : o.wp P a w K Q := by
  subst hdst
  unfold Oper.wp
  rw [hrun]
  refine hc.mono ?_
  rintro _ w' ⟨v, rfl, hr⟩
  exact h v w' hr
end
theorem runLdCell {o : Oper} {a : Act} {w : World} (x : Operand) (ho : o.op = .load 31 x) (p : Addr) (hx : a.eval x = .pointer (some p)) (v : Value) (hc : w.cell? p = some v) : (execOp a.eval o).run Tryd.prog w = .ok (.value v) w := by
  unfold execOp
  simp only [ho, hx]
  go_simp
theorem runIdx {o : Oper} {a : Act} {w : World} (x y : Operand) (ho : o.op = .indexAddr 31 x y) (b f n c i : Nat) (hx : a.eval x = .slice (some ⟨b, f, none⟩) n c) (hy : a.eval y = .int .i64 (i : Int)) (hi : i < n) :
    (execOp a.eval o).run Tryd.prog w = .ok (.value (.pointer (some ⟨b, f + i * 5, none⟩))) w := by
  have hlt : (i : Int) < (n : Int) := by omega
  unfold execOp
  simp only [ho, hx, hy]
  go_simp
theorem runLdItem {o : Oper} {a : Act} {w : World} (x : Operand) (ho : o.op = .load 33 x) (b f : Nat) (hx : a.eval x = .pointer (some ⟨b, f, none⟩)) (X : Array Value) (h5 : X.size = 5) (hc : w.rangeAt b f X.toList) : (execOp a.eval o).run Tryd.prog w = .ok (.value (.agg X)) w := by
  unfold execOp
  simp only [ho, hx, Instr.loadAt, Instr.sureAddr, Sem.run_bind, Sem.run_pure, Result.andThen_ok, run_loadVar_mid w b f 33 X.toList _ hc Tryd.underlying33 rfl (by simpa [h5] using infoI)]
theorem take_same {l l2 : List Tr} {i : Nat} {x y : Tr} (hx : l[i]? = some x) (hy : l2[i]? = some y) (h : l.take i = l2.take i) : (x = y → l.take (i + 1) = l2.take (i + 1)) ∧ (¬ x = y → ¬ l = l2) := by
  constructor
  · intro he
    rw [List.take_add_one, List.take_add_one, h, hx, hy, he]
  · intro hne he
    subst he
    rw [hx] at hy
    exact hne (Option.some.inj hy)
set_option maxHeartbeats 3200000 in
set_option maxRecDepth 100000 in
theorem same_any {w0 : World} {t : Tr} {cs : List Value} (h : TAt w0 t cs) : ∀ (y : Tr) (ds : List Value) (w : World), Below w0.heap.size w0 w → TAt w y ds →
    Calls Tryd.prog 33 #[.agg cs.toArray, .agg ds.toArray] w fun e w' => SameP t y e ∧ Below w.heap.size w w' := by
  induction h with
  | mk k tn s l o a c C hn hs hl hat hel ih =>
    intro y ds w hbw hy
    have hyk := hy
    cases hy with
    | mk k2 tn2 s2 l2 o2 a2 c2 C2 hn2 hs2 hl2 hat2 hel2 =>
      by_cases hh : k = k2 ∧ tn = tn2 ∧ s = s2 ∧ o = o2 ∧ l.length = l2.length
      · obtain ⟨rfl, rfl, rfl, rfl, hlen⟩ := hh
        obtain ⟨n, hln⟩ : ∃ n, l.length = n := ⟨_, rfl⟩
        have hln2 : l2.length = n := by omega
        have HN := Lib.hid hln
        have HN2 := Lib.hid hln2
        have HAT := Lib.hid hat
        have IH := Lib.hid ih
        have HEL := Lib.hid hel
        have HAT2 := Lib.hid hat2
        have HEL2 := Lib.hid hel2
        rw [hln] at hl
        rw [hln, hln2]
        have hml : n ≤ 9223372036854775807 := by unfold R47 at hl; omega
        have HBW := Lib.hid hbw
        have HFIN : Hid (∀ kk : Bool, (kk = true ↔ l = l2) → SameP (.mk k tn s l o) (.mk k tn s l2 o) (.returned (.bool kk))) := Lib.hid fun kk h => ⟨kk, rfl, h.trans ⟨fun e => by rw [e], fun e => by injection e⟩⟩
        clear hln hln2 hat ih hel hat2 hel2 hl hl2 hs hs2 hbw hn hn2 hlen hyk
        obtain ⟨q, hq⟩ : ∃ q : Int, (tn : Int) = q := ⟨_, rfl⟩
        rw [hq]
        clear hq
        go_enter Tryd.func33, Tryd.ntmps33
        go_wp2_with fail
        obtain ⟨w1, hw1⟩ : ∃ w1, (w.alloc (.cells #[.int .i64 k, .int .u64 q, .string (B s), .slice a n c, .bool o] 33)).alloc (.cells #[.int .i64 k, .int .u64 q, .string (B s), .slice a2 n c2, .bool o] 33) = w1 := ⟨_, rfl⟩
        have gS : w1.heap.size = w.heap.size + 1 + 1 := by rw [← hw1]; show ((w.heap.push _).push _).size = _; simp
        have gb : Below w.heap.size w w1 := by rw [← hw1]; exact ((Below.refl _ _).alloc (Nat.le_refl _) _).alloc (by show w.heap.size ≤ (w.heap.push _).size; simp) _
        have g3 : w1.cell? ⟨w.heap.size, 3, none⟩ = some (.slice a n c) := by rw [← hw1, cell_of_row _ _ _ _ _ _ (heap_under (heap_alloc_last w _))]; rfl
        have h3 : w1.cell? ⟨w.heap.size + 1, 3, none⟩ = some (.slice a2 n c2) := by rw [← hw1, cell_of_row _ _ _ _ _ _ (heap_at (by show (w.heap.push _).size = _; simp))]; rfl
        rw [hw1]
        clear hw1
        have G3 := Lib.hid g3
        have H3 := Lib.hid h3
        have GB := Lib.hid gb
        clear g3 h3 gb
        go_loopw [44] (fun s44 wr => ∃ i : Nat, i ≤ n ∧ s44 = .int .i64 (i : Int) ∧ Hid (l.take i = l2.take i) ∧ Below w1.heap.size w1 wr) (fun s _ => n - (intOf s).toNat)
        case atStart => exact ⟨0, by omega, rfl, Lib.hid rfl, Below.refl _ _⟩
        case round =>
          obtain ⟨i, hi, rfl, htk, hb⟩ := hrel
          have HE := Lib.hid (GB.out.trans (hb.mono (by omega)))
          by_cases hend : i = n
          · have hlt : ¬ (i : Int) < (n : Int) := by omega
            have hfin := htk.out
            rw [hend] at hfin
            have hfin2 : l = l2 := by rw [← List.take_length (l := l), ← List.take_length (l := l2), HN.out, HN2.out]; exact hfin
            have HF := Lib.hid (HFIN.out true ⟨fun _ => hfin2, fun _ => rfl⟩)
            clear hend hb hfin hfin2
            go_wp2
            go_ret
            exact ⟨HF.out, HE.out⟩
          · have hin : i < n := by omega
            have hlt : (i : Int) < (n : Int) := by omega
            obtain ⟨x, hx⟩ : ∃ x, l[i]? = some x := ⟨l[i]'(by rw [HN.out]; omega), List.getElem?_eq_getElem (by rw [HN.out]; omega)⟩
            obtain ⟨x2, hx2⟩ : ∃ x, l2[i]? = some x := ⟨l2[i]'(by rw [HN2.out]; omega), List.getElem?_eq_getElem (by rw [HN2.out]; omega)⟩
            obtain ⟨b, f, rfl, hbl, hra⟩ := HAT.out i (by rw [HN.out]; omega)
            obtain ⟨b2, f2, rfl, hbl2, hra2⟩ := HAT2.out i (by rw [HN2.out]; omega)
            have hb0 : Below w0.heap.size w0 wr := HBW.out.trans (HE.out.mono HBW.out.size)
            have HRA := Lib.hid (show wr.rangeAt b (f + i * 5) (C i).toArray.toList from rangeAt_below hra hb0 hbl)
            have HRB := Lib.hid (show wr.rangeAt b2 (f2 + i * 5) (C2 i).toArray.toList from rangeAt_below hra2 HE.out hbl2)
            have hwr := HE.out.size
            have hw0 := hb0.size
            have hbwA : b < wr.heap.size := by omega
            have hbwB : b2 < wr.heap.size := by omega
            have hw1s := hb.size
            have hblA : w.heap.size < wr.heap.size := by omega
            have hblB : w.heap.size + 1 < wr.heap.size := by omega
            have c3 : wr.cell? ⟨w.heap.size, 3, none⟩ = some (.slice (some ⟨b, f, none⟩) n c) := by rw [hb.cell (p := ⟨w.heap.size, 3, none⟩) (by show w.heap.size < _; omega)]; exact G3.out
            have d3 : wr.cell? ⟨w.heap.size + 1, 3, none⟩ = some (.slice (some ⟨b2, f2, none⟩) n c2) := by rw [hb.cell (p := ⟨w.heap.size + 1, 3, none⟩) (by show w.heap.size + 1 < _; omega)]; exact H3.out
            have HX := Lib.hid (show (C i).toArray.size = 5 by obtain ⟨_, _, _, he, _⟩ := (HEL.out i x hx).form; rw [he]; rfl)
            have HX2 := Lib.hid (show (C2 i).toArray.size = 5 by obtain ⟨_, _, _, he, _⟩ := (HEL2.out i x2 hx2).form; rw [he]; rfl)
            have HC : Hid (∀ W, Below wr.heap.size wr W → Calls Tryd.prog 33 #[.agg (C i).toArray, .agg (C2 i).toArray] W fun e w' => ∃ v, e = .returned v ∧ ∃ kk : Bool, v = .bool kk ∧ (kk = true ↔ x = x2) ∧ Below W.heap.size W w') := Lib.hid fun W hW =>
              (IH.out i x hx x2 (C2 i) W (hb0.trans (hW.mono hb0.size)) ((HEL2.out i x2 hx2).keep (HE.out.trans (hW.mono HE.out.size)) (Nat.le_refl _))).mono fun e w' ⟨⟨kk, he, hk⟩, hbb⟩ => ⟨_, he, kk, rfl, hk, hbb⟩
            have TS := Lib.hid (take_same hx hx2 htk.out)
            have HB1 := Lib.hid hb
            clear hend hx hx2 hra hra2 hb0 hb htk
            generalize (C i).toArray = X at *
            generalize (C2 i).toArray = X2 at *
            go_wp2_with fail
            have hS0 : Below wr.heap.size wr wr.drew := (Below.refl _ _).drew
            refine wp_region_held (S := fun W => Below wr.heap.size wr W) (by kernel_rfl) ?_
            change wpAnyH _ _ _ _ _ _ _ _ wr.drew
            refine takeH 0 rfl rfl (some 47) rfl (.pointer (some ⟨w.heap.size, 3, none⟩)) (by kernel_rfl) (by kernel_rfl) (by kernel_rfl) (fun _ _ _ h => h) (fun _ _ => by kernel_rfl) hS0 ?_
            simp only [Act.put, List.setIfInBounds_toArray, List.set_cons_zero, List.set_cons_succ]
            refine takeH 1 rfl rfl (some 48) rfl ((.slice (some ⟨b, f, none⟩) n c)) (by kernel_rfl) (by kernel_rfl) (by kernel_rfl) (fun _ _ _ h => h) (fun W hW => runLdCell (.tmp 47) rfl ⟨w.heap.size, 3, none⟩ rfl _ (by rw [hW.cell (p := ⟨w.heap.size, 3, none⟩) hblA]; exact c3)) hS0 ?_
            simp only [Act.put, List.setIfInBounds_toArray, List.set_cons_zero, List.set_cons_succ]
            refine takeH 2 rfl rfl (some 49) rfl (.int .i64 (i : Int)) (by kernel_rfl) (by kernel_rfl) (by kernel_rfl) (fun _ _ _ h => h) (fun _ _ => by kernel_rfl) hS0 ?_
            simp only [Act.put, List.setIfInBounds_toArray, List.set_cons_zero, List.set_cons_succ]
            refine takeH 3 rfl rfl (some 50) rfl (.pointer (some ⟨b, f + i * 5, none⟩)) (by kernel_rfl) (by kernel_rfl) (by kernel_rfl) (fun _ _ _ h => h) (fun W hW => runIdx (.tmp 48) (.tmp 49) rfl b f n c i rfl rfl hin) hS0 ?_
            simp only [Act.put, List.setIfInBounds_toArray, List.set_cons_zero, List.set_cons_succ]
            refine takeH 4 rfl rfl (some 51) rfl (.agg X) (by kernel_rfl) (by kernel_rfl) (by kernel_rfl) (fun _ _ _ h => h) (fun W hW => runLdItem (.tmp 50) rfl b (f + i * 5) rfl X HX.out (rangeAt_below HRA.out hW hbwA)) hS0 ?_
            simp only [Act.put, List.setIfInBounds_toArray, List.set_cons_zero, List.set_cons_succ]
            refine takeH 5 rfl rfl (some 52) rfl (.pointer (some ⟨w.heap.size + 1, 3, none⟩)) (by kernel_rfl) (by kernel_rfl) (by kernel_rfl) (fun _ _ _ h => h) (fun _ _ => by kernel_rfl) hS0 ?_
            simp only [Act.put, List.setIfInBounds_toArray, List.set_cons_zero, List.set_cons_succ]
            refine takeH 6 rfl rfl (some 53) rfl ((.slice (some ⟨b2, f2, none⟩) n c2)) (by kernel_rfl) (by kernel_rfl) (by kernel_rfl) (fun _ _ _ h => h) (fun W hW => runLdCell (.tmp 52) rfl ⟨w.heap.size + 1, 3, none⟩ rfl _ (by rw [hW.cell (p := ⟨w.heap.size + 1, 3, none⟩) hblB]; exact d3)) hS0 ?_
            simp only [Act.put, List.setIfInBounds_toArray, List.set_cons_zero, List.set_cons_succ]
            refine takeH 7 rfl rfl (some 54) rfl (.int .i64 (i : Int)) (by kernel_rfl) (by kernel_rfl) (by kernel_rfl) (fun _ _ _ h => h) (fun _ _ => by kernel_rfl) hS0 ?_
            simp only [Act.put, List.setIfInBounds_toArray, List.set_cons_zero, List.set_cons_succ]
            refine takeH 8 rfl rfl (some 55) rfl (.pointer (some ⟨b2, f2 + i * 5, none⟩)) (by kernel_rfl) (by kernel_rfl) (by kernel_rfl) (fun _ _ _ h => h) (fun W hW => runIdx (.tmp 53) (.tmp 54) rfl b2 f2 n c2 i rfl rfl hin) hS0 ?_
            simp only [Act.put, List.setIfInBounds_toArray, List.set_cons_zero, List.set_cons_succ]
            refine takeH 9 rfl rfl (some 56) rfl (.agg X2) (by kernel_rfl) (by kernel_rfl) (by kernel_rfl) (fun _ _ _ h => h) (fun W hW => runLdItem (.tmp 55) rfl b2 (f2 + i * 5) rfl X2 HX2.out (rangeAt_below HRB.out hW hbwB)) hS0 ?_
            simp only [Act.put, List.setIfInBounds_toArray, List.set_cons_zero, List.set_cons_succ]
            refine oneH 10 rfl rfl (by kernel_rfl) fun K hK => ?_
            refine wpH_callE (some 57) rfl 33 #[.agg X, .agg X2] (by kernel_rfl) _ (HC.out _ hS0) fun vk wc hc => ?_
            simp only [Act.put, List.setIfInBounds_toArray, List.set_cons_zero, List.set_cons_succ]
            obtain ⟨kk, rfl, hiff, hbc⟩ := hc
            have hS1 : Below wr.heap.size wr wc := hS0.trans (hbc.mono hS0.size)
            refine hK _ _ hS1 fun _ => ?_
            clear hK K
            refine takeH 11 rfl rfl (some 58) rfl (.bool !kk) (by kernel_rfl) (by kernel_rfl) (by kernel_rfl) (fun _ _ _ h => h) (fun _ _ => by kernel_rfl) hS1 ?_
            simp only [Act.put, List.setIfInBounds_toArray, List.set_cons_zero, List.set_cons_succ]
            refine wpAnyH_done (by kernel_rfl) ?_ _
            have HW := Lib.hid (HB1.out.trans (hS1.mono hw1s))
            have HWE := Lib.hid (HE.out.trans (hS1.mono hwr))
            clear hS0 hS1 hbc HB1 HC
            cases kk with
            | true =>
              have HA := Lib.hid (TS.out.1 (hiff.1 rfl))
              clear hiff
              go_wp2
              go_round
              case rel => exact ⟨i + 1, by omega, by go_num, HA, HW.out⟩
              case measure => simp [intOf]; omega
            | false =>
              have HA := Lib.hid (HFIN.out false ⟨fun e => (by cases e), fun e => absurd e (TS.out.2 (fun e2 => by have := hiff.2 e2; cases this))⟩)
              clear hiff
              go_wp2
              go_ret
              exact ⟨HA.out, HWE.out⟩
      · have HH := Lib.hid hh
        have HFIN : Hid (SameP (.mk k tn s l o) (.mk k2 tn2 s2 l2 o2) (.returned (.bool false))) := Lib.hid ⟨false, rfl, ⟨fun e => (by cases e), fun e => by injection e with e1 e2 e3 e4 e5; exact absurd ⟨e1, e2, e3, e5, by rw [e4]⟩ hh⟩⟩
        obtain ⟨n, hln⟩ : ∃ n, l.length = n := ⟨_, rfl⟩
        obtain ⟨n2, hln2⟩ : ∃ n2, l2.length = n2 := ⟨_, rfl⟩
        rw [hln, hln2]
        have HL := Lib.hid hln
        have HL2 := Lib.hid hln2
        clear hh hln hln2 hat hel hat2 hel2 ih hyk hbw
        go_enter Tryd.func33, Tryd.ntmps33
        go_wp2_with fail
        all_goals first
          | (go_ret; exact ⟨HFIN.out, by ((repeat' (with_reducible first | exact Below.refl _ _ | assumption | refine Below.drew ?_ | refine below_drewN ?_ _ | refine Below.setCell ?_ ?_ _ | refine Below.alloc ?_ ?_ _ | refine Below.ext ?_ ?_ _ | refine Below.trans ?_ (Below.mono ‹_› ?_))) <;> first | omega | (simp; done) | (simp; omega))⟩)
          | (exfalso; refine HH.out ⟨by first | assumption | omega, by first | assumption | omega, by first | assumption | omega, by first | assumption | simp_all, by rw [HL.out, HL2.out]; first | assumption | omega | (have hq := ‹((n : Int) != (n2 : Int)) = false›; simp at hq; omega)⟩)
set_option maxHeartbeats 1600000 in
set_option maxRecDepth 100000 in
theorem Same_any (t y : Tr) (cs ds : List Value) (w : World) (h : TAt w t cs) (h2 : TAt w y ds) : Calls Tryd.prog 25 #[.agg cs.toArray, .agg ds.toArray] w fun e w' => (∃ k, e = .returned (.bool k) ∧ (k = true ↔ rightT 8 t = true ∧ rightT 8 y = true ∧ t = y)) ∧ Below w.heap.size w w' := by
  have HR := Lib.hid fun (W : World) (hb : Below w.heap.size w W) => iRight_any t cs W (h.keep hb (Nat.le_refl _))
  have HR2 := Lib.hid fun (W : World) (hb : Below w.heap.size w W) => iRight_any y ds W (h2.keep hb (Nat.le_refl _))
  have HS := Lib.hid fun (W : World) (hb : Below w.heap.size w W) => same_any h y ds W hb (h2.keep hb (Nat.le_refl _))
  obtain ⟨R, hRR⟩ : ∃ R : Ending → Prop, R = fun e => ∃ k, e = .returned (.bool k) ∧ (k = true ↔ rightT 8 t = true ∧ rightT 8 y = true ∧ t = y) := ⟨_, rfl⟩
  have HRR := Lib.hid hRR
  suffices hh : Calls Tryd.prog 25 #[.agg cs.toArray, .agg ds.toArray] w fun e w' => R e ∧ Below w.heap.size w w' by
    rw [hRR] at hh; exact hh
  have h5 : cs.toArray.size = 5 := by obtain ⟨_, _, _, he, _⟩ := h.form; rw [he]; rfl
  have h6 : ds.toArray.size = 5 := by obtain ⟨_, _, _, he, _⟩ := h2.form; rw [he]; rfl
  have HF : ∀ k : Bool, (k = true ↔ rightT 8 t = true ∧ rightT 8 y = true ∧ t = y) → R (.returned (.bool k)) := fun k hk => by rw [hRR]; exact ⟨k, rfl, hk⟩
  have HF := Lib.hid HF
  generalize rightT 8 t = ra at *
  generalize rightT 8 y = rb at *
  generalize cs.toArray = X at *
  generalize ds.toArray = Y at *
  have H5 := Lib.hid h5
  have H6 := Lib.hid h6
  clear h h2 h5 h6 hRR HRR
  go_enter Tryd.func25, Tryd.ntmps25
  go_wp2_with (with_reducible refine stop_load 33 rfl ?_)
  obtain ⟨w1, hw1⟩ : ∃ w1, (w.alloc (.cells X 33)).alloc (.cells Y 33) = w1 := ⟨_, rfl⟩
  have gS : w1.heap.size = w.heap.size + 1 + 1 := by rw [← hw1]; show ((w.heap.push _).push _).size = _; simp
  have gb : Below w.heap.size w w1 := by rw [← hw1]; exact ((Below.refl _ _).alloc (Nat.le_refl _) _).alloc (by show w.heap.size ≤ (w.heap.push _).size; simp) _
  have g3 : w1.heap[w.heap.size]? = some (.cells X 33 (0, 0)) := by rw [← hw1]; exact heap_under (heap_alloc_last w _)
  have h3 : w1.heap[w.heap.size + 1]? = some (.cells Y 33 (0, 0)) := by rw [← hw1]; exact heap_at (by show (w.heap.push _).size = _; simp)
  rw [hw1]
  clear hw1
  refine load_mid 33 (.tmp 2) rfl rfl (some 5) rfl w.heap.size 0 rfl X (rangeAt_row g3) _ Tryd.underlying33 rfl (by rw [H5.out]; exact infoI) ?_
  have GB := Lib.hid gb
  have G3 := Lib.hid g3
  have H3 := Lib.hid h3
  have hl1 : w.heap.size < w1.heap.size := by omega
  have hl2 : w.heap.size + 1 < w1.heap.size := by omega
  clear gb g3 h3
  go_wp2_with fail
  refine (HR.out _ GB.out).mono ?_
  rintro e w2 ⟨rfl, hb2⟩
  have G2 := Lib.hid (GB.out.trans (hb2.mono GB.out.size))
  have GX2 := Lib.hid (heap_below hb2 hl1 G3.out)
  have GY2 := Lib.hid (heap_below hb2 hl2 H3.out)
  have hs2 := hb2.size
  clear hb2 HR G3 H3 GB
  cases ra with
  | false =>
    have HE := Lib.hid (HF.out false (by simp))
    go_wp2
    go_ret
    exact ⟨HE.out, G2.out⟩
  | true =>
    go_wp2_with (with_reducible refine stop_load 33 rfl ?_)
    refine load_mid_g 33 (.tmp 3) rfl rfl (some 8) rfl (w.heap.size + 1) 0 rfl Y (rangeAt_row GY2.out) _ Tryd.underlying33 rfl (by rw [H6.out]; exact infoI) ?_
    go_wp2_with fail
    refine (HR2.out _ G2.out).mono ?_
    rintro e w3 ⟨rfl, hb3⟩
    have K3 := Lib.hid (G2.out.trans (hb3.mono G2.out.size))
    have GX3 := Lib.hid (heap_below hb3 (by omega) GX2.out)
    have GY3 := Lib.hid (heap_below hb3 (by omega) GY2.out)
    clear hb3 HR2 G2 GX2 GY2
    cases rb with
    | false =>
      have HE := Lib.hid (HF.out false (by simp))
      go_wp2
      go_ret
      exact ⟨HE.out, K3.out⟩
    | true =>
      go_wp2_with (with_reducible refine stop_load 33 rfl ?_)
      refine load_mid_g 33 (.tmp 2) rfl rfl (some 12) rfl w.heap.size 0 rfl X (rangeAt_row GX3.out) _ Tryd.underlying33 rfl (by rw [H5.out]; exact infoI) ?_
      go_wp2_with (with_reducible refine stop_load 33 rfl ?_)
      refine load_mid_g 33 (.tmp 3) rfl rfl (some 13) rfl (w.heap.size + 1) 0 rfl Y (rangeAt_row GY3.out) _ Tryd.underlying33 rfl (by rw [H6.out]; exact infoI) ?_
      go_wp2_with fail
      refine (HS.out _ K3.out).mono ?_
      rintro e w4 ⟨⟨k, rfl, hk⟩, hb4⟩
      have K4 := Lib.hid (K3.out.trans (hb4.mono K3.out.size))
      have HE := Lib.hid (HF.out k (by simp [hk]))
      clear hb4 hk
      go_wp2
      go_ret
      exact ⟨HE.out, K4.out⟩
end Go.Proofs.YtlbpodddokhmaaaDoor.Itm
