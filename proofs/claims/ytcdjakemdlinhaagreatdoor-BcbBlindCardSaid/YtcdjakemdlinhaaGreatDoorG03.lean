/-
  Several texts in one: Itm4 Itm5 Itm6 Itm7 Itm8 Eid3 Ref10 Ref10b Ref10c Blank Itm9 Itm10 Itm11 Itm12 Itm13.
  Conditions: named at each.
-/
import Derived.Test.YtcdjakemdlinhaaGreatDoorG02
import Derived.StillTailTactics
import Derived.Deep.QuietTactic
import Derived.BigQuiet
import Derived.IntWalk
import Derived.Deep.RegionHeld3
import Derived.Deep.AppendLies
set_option linter.unusedSimpArgs false
set_option linter.unusedVariables false
set_option linter.unusedSectionVars false
namespace Go.Proofs.YtcdjakemdlinhaaGreatDoor.Itm
open Go.ChangeShapes Go.WideShapes Go.ChangeAt Go.RowKit
theorem item_oneCell {w : World} {t : Tr} {cs : List Value} (h : TAt w t cs) : cs.toArray.all (·.oneCell') = true := by
 obtain ⟨_, _, _, rfl, _⟩ := h.form
 simp [Value.oneCell']
theorem okN_len {k : Int} {n : Nat} {s : List UInt8} {l : List Tr} {o : Bool} {f : Tr → Bool} (hk : ¬ k = 4) : (okN k n s l.length o && l.all f) = okN k n s l.length o := by
 cases h : okN k n s l.length o with
 | false => rfl
 | true =>
  rcases okN_true h with ⟨_, _, h0, _⟩ | ⟨_, _, h0, _⟩ | ⟨_, _, h0, _⟩ | ⟨h4, _⟩
  · rw [List.length_eq_zero_iff.1 h0]; rfl
  · rw [List.length_eq_zero_iff.1 h0]; rfl
  · rw [List.length_eq_zero_iff.1 h0]; rfl
  · exact absurd h4 hk
set_option maxHeartbeats 3200000 in
set_option maxRecDepth 100000 in
theorem right_any : ∀ (d : Nat), d ≤ 8 → ∀ (t : Tr) (cs : List Value) (w : World), TAt w t cs →
  Calls Tryz.prog 209 #[.agg cs.toArray, .int .i64 d] w fun e w' => e = .returned (.bool (rightT d t)) ∧ Below w.heap.size w w' := by
 intro d
 induction d with
 | zero =>
  intro _ t cs w h
  obtain ⟨a, c, C, rfl, _⟩ := box_item h
  clear h
  go_enter Tryz.func209, Tryz.ntmps209
  go_wp2
  go_ret
  exact ⟨rfl, by ((repeat' (with_reducible first | exact Below.refl _ _ | assumption | refine Below.drew ?_ | refine below_drewN ?_ _ | refine Below.setCell ?_ ?_ _ | refine Below.alloc ?_ ?_ _ | refine Below.ext ?_ ?_ _ | refine Below.trans ?_ (Below.mono ‹_› ?_))) <;> first | omega | (simp; done) | (simp; omega))⟩
 | succ d ih =>
  intro hd t cs w h
  obtain ⟨a, c, C, rfl, _, _, hll, hel⟩ := box_item h
  obtain ⟨z, hz⟩ : ∃ z : Int, ((d + 1 : Nat) : Int) = z := ⟨_, rfl⟩
  have hzm : z - 1 = (d : Int) := by omega
  have hz1 : 1 ≤ z := by omega
  have hz9 : z ≤ 9 := by omega
  have hr : rightT (d + 1) t = (okN t.k t.n t.s t.l.length t.o && t.l.all (rightT d)) := rfl
  have hr2 : ¬ t.k = 4 → rightT (d + 1) t = okN t.k t.n t.s t.l.length t.o := fun h4 => hr.trans (okN_len h4)
  obtain ⟨n, hn⟩ : ∃ n, t.l.length = n := ⟨_, rfl⟩
  rw [hn] at hll hr hr2
  rw [hn, hz]
  have IH := Lib.hid (ih (by omega))
  rw [← hzm] at IH
  have HN := Lib.hid hn
  have HEL := Lib.hid hel
  have HR := Lib.hid hr
  have HR2 := Lib.hid hr2
  have hml : n ≤ 9223372036854775807 := by unfold R47 at hll; omega
  generalize rightT (d + 1) t = rb at *
  generalize t.k = k at *
  generalize t.n = tn at *
  generalize t.s = s at *
  generalize t.o = o at *
  clear hn hel ih h hll hz hzm hr hr2
  by_cases hk4 : k = 4
  ·
   have hr4 : rb = ((decide (tn = 0) && decide (s = []) && decide (n ≤ 1000)) && t.l.all (rightT d)) := by rw [HR.out, hk4]; rfl
   have HR4 := Lib.hid hr4
   subst hk4
   clear HR HR2 hr4
   by_cases hok : tn = 0 ∧ s = [] ∧ n ≤ 1000
   ·
    obtain ⟨rfl, rfl, hle⟩ := hok
    have hpt : rb = t.l.all (rightT d) := by rw [HR4.out]; simp [hle]
    have HPT := Lib.hid hpt
    have hle2 : (n : Int) ≤ 1000 := by omega
    clear HR4 hpt
    rw [show ((0 : Nat) : Int) = 0 from rfl]
    go_enter Tryz.func209, Tryz.ntmps209
    go_wp2_with fail
    obtain ⟨w1, hw1⟩ : ∃ w1, w.alloc (.cells #[.int .i64 4, .int .u64 0, .string (B []), .slice a n c, .bool o] 89) = w1 := ⟨_, rfl⟩
    have gS : w1.heap.size = w.heap.size + 1 := by rw [← hw1]; show (w.heap.push _).size = _; simp
    have gb : Below w.heap.size w w1 := by rw [← hw1]; exact (Below.refl _ _).alloc (Nat.le_refl _) _
    rw [hw1]
    clear hw1
    have GB := Lib.hid gb
    clear gb
    go_loopw [63] (fun s63 wr => ∃ i : Nat, i ≤ n ∧ s63 = .int .i64 (i : Int) ∧ Hid ((t.l.take i).all (rightT d) = true) ∧ Below w1.heap.size w1 wr) (fun s _ => n - (intOf s).toNat)
    case atStart => exact ⟨0, by omega, rfl, Lib.hid (by simp), Below.refl _ _⟩
    case round =>
     obtain ⟨i, hi, rfl, hal, hb⟩ := hrel
     have HE := Lib.hid (GB.out.trans (hb.mono (by omega)))
     by_cases hend : i = n
     ·
      have hlt : ¬ (i : Int) < (n : Int) := by omega
      have hfin := hal.out
      rw [hend, ← HN.out, List.take_length] at hfin
      have HFIN := Lib.hid (HPT.out.trans hfin)
      clear hend hb hfin
      go_wp2
      go_ret
      exact ⟨by rw [HFIN.out]; rfl, HE.out⟩
     ·
      have hlt : (i : Int) < (n : Int) := by omega
      obtain ⟨x, hx⟩ : ∃ x, t.l[i]? = some x := ⟨t.l[i]'(by rw [HN.out]; omega), List.getElem?_eq_getElem (by rw [HN.out]; omega)⟩
      obtain ⟨b, f, rfl, hbl, hra, hta, hc5⟩ := HEL.out i x hx
      have hb0 : Below w.heap.size w wr := HE.out
      have HRA := Lib.hid (rangeAt_below hra hb0 hbl)
      have hbs0 := hb.size
      have HC := Lib.hid fun (W : World) (hW : Below wr.heap.size wr W) => IH.out x (C i) W (hta.keep (hb0.trans (hW.mono hb0.size)) (Nat.le_refl _))
      have HC5 := Lib.hid (show (C i).toArray.size = 5 by rw [List.size_toArray, hc5])
      have HC1 := Lib.hid (item_oneCell hta)
      have HRB1 := Lib.hid (show wr.rangeAt b (f + i * 5) (C i).toArray.toList from HRA.out)
      have HB1 := Lib.hid hb
      have HAT2 := Lib.hid (all_take hx hal.out)
      clear hend hx hra hb0 hc5 hb hal hta HRA
      generalize rightT d x = px at *
      generalize (C i).toArray = X at *
      go_wp2_with (with_reducible refine stop_load 89 rfl ?_)
      refine load_mid 89 (.tmp 65) rfl rfl (some 66) rfl b (f + i * 5) rfl X HRB1.out _ Tryz.underlying89 rfl (by rw [HC5.out]; exact infoI) ?_
      go_wp2_with (with_reducible refine stop_store 89 rfl ?_)
      refine store_row 89 (.tmp 6) (.tmp 66) rfl rfl rfl wr.heap.size X rfl rfl 89 #[.int .i64 0, .int .u64 0, .string ⟨#[]⟩, .slice none 0 0, .bool false] (heap_alloc_last wr _) (by rw [HC5.out]; exact infoI) (by rw [HC5.out]; rfl) HC1.out ?_
      rw [World.setRow_alloc_new]
      have q1 : Below wr.heap.size wr (wr.alloc (.cells X 89)) := (Below.refl _ _).alloc (Nat.le_refl _) _
      have q2 := heap_alloc_last wr (.cells X 89)
      have Q1 := Lib.hid q1
      have Q2 := Lib.hid q2
      clear q1 q2
      generalize wr.alloc (.cells X 89) = w3 at *
      go_wp2_with (with_reducible refine stop_load 89 rfl ?_)
      refine load_mid 89 (.tmp 6) rfl rfl (some 67) rfl wr.heap.size 0 rfl X (rangeAt_row Q2.out) _ Tryz.underlying89 rfl (by rw [HC5.out]; exact infoI) ?_
      go_wp2_with fail
      refine (HC.out _ Q1.out).mono ?_
      rintro e w2 ⟨rfl, hb2⟩
      have HW := Lib.hid (HB1.out.trans ((Q1.out.trans (hb2.mono Q1.out.size)).mono hbs0))
      have HWE := Lib.hid (HE.out.trans ((Q1.out.trans (hb2.mono Q1.out.size)).mono HE.out.size))
      clear hb2 HB1 HC Q1 Q2
      cases px with
      | true =>
       have HA := Lib.hid (HAT2.out.1 rfl)
       go_wp2
       go_round
       case rel => exact ⟨i + 1, by omega, by go_num, HA, HW.out⟩
       case measure => simp [intOf]; omega
      | false =>
       have HA := Lib.hid (HPT.out.trans (HAT2.out.2 rfl))
       go_wp2
       go_ret
       exact ⟨by rw [HA.out]; rfl, HWE.out⟩
   ·
    have hrf : rb = false := by
     rw [HR4.out]
     have : ¬ ((decide (tn = 0) && decide (s = []) && decide (n ≤ 1000)) = true) := by simpa [and_assoc] using hok
     rw [Bool.not_eq_true] at this
     rw [this]
     rfl
    have HOK := Lib.hid hok
    subst hrf
    clear HR4 hok
    go_enter Tryz.func209, Tryz.ntmps209
    go_wp2_with fail
    all_goals first
     | (go_ret; exact ⟨rfl, by ((repeat' (with_reducible first | exact Below.refl _ _ | assumption | refine Below.drew ?_ | refine below_drewN ?_ _ | refine Below.setCell ?_ ?_ _ | refine Below.alloc ?_ ?_ _ | refine Below.ext ?_ ?_ _ | refine Below.trans ?_ (Below.mono ‹_› ?_))) <;> first | omega | (simp; done) | (simp; omega))⟩)
     | (exfalso; exact HOK.out ⟨by omega, ‹_›, by omega⟩)
  ·
   have HRB := Lib.hid (HR2.out hk4)
   clear HR HR2
   go_enter Tryz.func209, Tryz.ntmps209
   go_wp2
   all_goals
    go_ret
    exact ⟨ret_bool (by rw [HRB.out]; simp_all [okN]), by ((repeat' (with_reducible first | exact Below.refl _ _ | assumption | refine Below.drew ?_ | refine below_drewN ?_ _ | refine Below.setCell ?_ ?_ _ | refine Below.alloc ?_ ?_ _ | refine Below.ext ?_ ?_ _ | refine Below.trans ?_ (Below.mono ‹_› ?_))) <;> first | omega | (simp; done) | (simp; omega))⟩
end Go.Proofs.YtcdjakemdlinhaaGreatDoor.Itm
namespace Go.Proofs.YtcdjakemdlinhaaGreatDoor.Itm
open Go.ChangeShapes Go.WideShapes Go.ChangeAt Go.RowKit Go.Deep
set_option maxRecDepth 100000 in
theorem iRight_any (t : Tr) (cs : List Value) (w : World) (h : TAt w t cs) : Calls Tryz.prog 179 #[.agg cs.toArray] w fun e w' => e = .returned (.bool (rightT 8 t)) ∧ Below w.heap.size w w' := by
 have HC := Lib.hid fun (W : World) (hb : Below w.heap.size w W) => right_any 8 (by omega) t cs W (h.keep hb (Nat.le_refl _))
 have h5 : cs.toArray.size = 5 := by obtain ⟨_, _, _, he, _⟩ := h.form; rw [he]; rfl
 generalize rightT 8 t = rb at *
 generalize cs.toArray = X at *
 have H5 := Lib.hid h5
 clear h h5
 go_enter Tryz.func179, Tryz.ntmps179
 go_wp2_with (with_reducible refine stop_load 89 rfl ?_)
 have gb : Below w.heap.size w (w.alloc (.cells X 89)) := (Below.refl _ _).alloc (Nat.le_refl _) _
 refine load_mid 89 (.tmp 1) rfl rfl (some 3) rfl w.heap.size 0 rfl X (rangeAt_row (heap_alloc_last w _)) _ Tryz.underlying89 rfl (by rw [H5.out]; exact infoI) ?_
 have GB := Lib.hid gb
 clear gb
 generalize w.alloc (.cells X 89) = w1 at *
 go_wp2_with fail
 refine (HC.out _ GB.out).mono ?_
 rintro e w2 ⟨rfl, hb2⟩
 have G2 := Lib.hid (GB.out.trans (hb2.mono GB.out.size))
 clear hb2
 go_wp2
 go_ret
 exact ⟨rfl, G2.out⟩
def SameP (a b : Tr) (e : Ending) : Prop := ∃ k, e = .returned (.bool k) ∧ (k = true ↔ a = b)
section
variable {P : Program} {ops : Array Oper} {Q : Exit → Act → World → Prop} {md : Region.Mode} {S : World → Prop}
theorem wpH_callE {o : Oper} {a : Act} {w : World} {K : Act → World → Prop} (dst : Option Tmp) (hdst : o.dst = dst) (f : FuncId) (args : Array Value) (hrun : (execOp a.eval o).run P w = .ok (.enter f args) w) (R : Value → World → Prop)
  (hc : Calls P f args w fun e w' => ∃ v, e = .returned v ∧ R v w') (h : ∀ v w', R v w' → K (a.put dst v) w') : o.wp P a w K Q := by
 subst hdst
 unfold Oper.wp
 rw [hrun]
 refine hc.mono ?_
 rintro _ w' ⟨v, rfl, hr⟩
 exact h v w' hr
end
theorem runLdCell {o : Oper} {a : Act} {w : World} (x : Operand) (ho : o.op = .load 87 x) (p : Addr) (hx : a.eval x = .pointer (some p)) (v : Value) (hc : w.cell? p = some v) : (execOp a.eval o).run Tryz.prog w = .ok (.value v) w := by
 unfold execOp
 simp only [ho, hx]
 go_simp
theorem runIdx {o : Oper} {a : Act} {w : World} (x y : Operand) (ho : o.op = .indexAddr 87 x y) (b f n c i : Nat) (hx : a.eval x = .slice (some ⟨b, f, none⟩) n c) (hy : a.eval y = .int .i64 (i : Int)) (hi : i < n) :
  (execOp a.eval o).run Tryz.prog w = .ok (.value (.pointer (some ⟨b, f + i * 5, none⟩))) w := by
 have hlt : (i : Int) < (n : Int) := by omega
 unfold execOp
 simp only [ho, hx, hy]
 go_simp
theorem runLdItem {o : Oper} {a : Act} {w : World} (x : Operand) (ho : o.op = .load 89 x) (b f : Nat) (hx : a.eval x = .pointer (some ⟨b, f, none⟩)) (X : Array Value) (h5 : X.size = 5) (hc : w.rangeAt b f X.toList) : (execOp a.eval o).run Tryz.prog w = .ok (.value (.agg X)) w := by
 unfold execOp
 simp only [ho, hx, Instr.loadAt, Instr.sureAddr, Sem.run_bind, Sem.run_pure, Result.andThen_ok, run_loadVar_mid w b f 89 X.toList _ hc Tryz.underlying89 rfl (by simpa [h5] using infoI)]
theorem take_same {l l2 : List Tr} {i : Nat} {x y : Tr} (hx : l[i]? = some x) (hy : l2[i]? = some y) (h : l.take i = l2.take i) : (x = y → l.take (i + 1) = l2.take (i + 1)) ∧ (¬ x = y → ¬ l = l2) := by
 constructor
 ·
  intro he
  rw [List.take_add_one, List.take_add_one, h, hx, hy, he]
 ·
  intro hne he
  subst he
  rw [hx] at hy
  exact hne (Option.some.inj hy)
set_option maxHeartbeats 3200000 in
set_option maxRecDepth 100000 in
theorem same_any {w0 : World} {t : Tr} {cs : List Value} (h : TAt w0 t cs) : ∀ (y : Tr) (ds : List Value) (w : World), Below w0.heap.size w0 w → TAt w y ds →
  Calls Tryz.prog 243 #[.agg cs.toArray, .agg ds.toArray] w fun e w' => SameP t y e ∧ Below w.heap.size w w' := by
 induction h with
 | mk k tn s l o a c C hn hs hl hat hel ih =>
  intro y ds w hbw hy
  have hyk := hy
  cases hy with
  | mk k2 tn2 s2 l2 o2 a2 c2 C2 hn2 hs2 hl2 hat2 hel2 =>
   by_cases hh : k = k2 ∧ tn = tn2 ∧ s = s2 ∧ o = o2 ∧ l.length = l2.length
   ·
    obtain ⟨rfl, rfl, rfl, rfl, hlen⟩ := hh
    obtain ⟨n, hln⟩ : ∃ n, l.length = n := ⟨_, rfl⟩
    have hln2 : l2.length = n := by omega
    have HN := Lib.hid hln
    have HN2 := Lib.hid hln2
    have HAT := Lib.hid hat
    have IH := Lib.hid ih
    have HEL := Lib.hid hel
    have HAT2 := Lib.hid hat2
    have HEL2 := Lib.hid hel2
    rw [hln] at hl
    rw [hln, hln2]
    have hml : n ≤ 9223372036854775807 := by unfold R47 at hl; omega
    have HBW := Lib.hid hbw
    have HFIN : Hid (∀ kk : Bool, (kk = true ↔ l = l2) → SameP (.mk k tn s l o) (.mk k tn s l2 o) (.returned (.bool kk))) := Lib.hid fun kk h => ⟨kk, rfl, h.trans ⟨fun e => by rw [e], fun e => by injection e⟩⟩
    clear hln hln2 hat ih hel hat2 hel2 hl hl2 hs hs2 hbw hn hn2 hlen hyk
    obtain ⟨q, hq⟩ : ∃ q : Int, (tn : Int) = q := ⟨_, rfl⟩
    rw [hq]
    clear hq
    go_enter Tryz.func243, Tryz.ntmps243
    go_wp2_with fail
    obtain ⟨w1, hw1⟩ : ∃ w1, (w.alloc (.cells #[.int .i64 k, .int .u64 q, .string (B s), .slice a n c, .bool o] 89)).alloc (.cells #[.int .i64 k, .int .u64 q, .string (B s), .slice a2 n c2, .bool o] 89) = w1 := ⟨_, rfl⟩
    have gS : w1.heap.size = w.heap.size + 1 + 1 := by rw [← hw1]; show ((w.heap.push _).push _).size = _; simp
    have gb : Below w.heap.size w w1 := by rw [← hw1]; exact ((Below.refl _ _).alloc (Nat.le_refl _) _).alloc (by show w.heap.size ≤ (w.heap.push _).size; simp) _
    have g3 : w1.cell? ⟨w.heap.size, 3, none⟩ = some (.slice a n c) := by rw [← hw1, cell_of_row _ _ _ _ _ _ (heap_under (heap_alloc_last w _))]; rfl
    have h3 : w1.cell? ⟨w.heap.size + 1, 3, none⟩ = some (.slice a2 n c2) := by rw [← hw1, cell_of_row _ _ _ _ _ _ (heap_at (by show (w.heap.push _).size = _; simp))]; rfl
    rw [hw1]
    clear hw1
    have G3 := Lib.hid g3
    have H3 := Lib.hid h3
    have GB := Lib.hid gb
    clear g3 h3 gb
    go_loopw [44] (fun s44 wr => ∃ i : Nat, i ≤ n ∧ s44 = .int .i64 (i : Int) ∧ Hid (l.take i = l2.take i) ∧ Below w1.heap.size w1 wr) (fun s _ => n - (intOf s).toNat)
    case atStart => exact ⟨0, by omega, rfl, Lib.hid rfl, Below.refl _ _⟩
    case round =>
     obtain ⟨i, hi, rfl, htk, hb⟩ := hrel
     have HE := Lib.hid (GB.out.trans (hb.mono (by omega)))
     by_cases hend : i = n
     ·
      have hlt : ¬ (i : Int) < (n : Int) := by omega
      have hfin := htk.out
      rw [hend] at hfin
      have hfin2 : l = l2 := by rw [← List.take_length (l := l), ← List.take_length (l := l2), HN.out, HN2.out]; exact hfin
      have HF := Lib.hid (HFIN.out true ⟨fun _ => hfin2, fun _ => rfl⟩)
      clear hend hb hfin hfin2
      go_wp2
      go_ret
      exact ⟨HF.out, HE.out⟩
     ·
      have hin : i < n := by omega
      have hlt : (i : Int) < (n : Int) := by omega
      obtain ⟨x, hx⟩ : ∃ x, l[i]? = some x := ⟨l[i]'(by rw [HN.out]; omega), List.getElem?_eq_getElem (by rw [HN.out]; omega)⟩
      obtain ⟨x2, hx2⟩ : ∃ x, l2[i]? = some x := ⟨l2[i]'(by rw [HN2.out]; omega), List.getElem?_eq_getElem (by rw [HN2.out]; omega)⟩
      obtain ⟨b, f, rfl, hbl, hra⟩ := HAT.out i (by rw [HN.out]; omega)
      obtain ⟨b2, f2, rfl, hbl2, hra2⟩ := HAT2.out i (by rw [HN2.out]; omega)
      have hb0 : Below w0.heap.size w0 wr := HBW.out.trans (HE.out.mono HBW.out.size)
      have HRA := Lib.hid (show wr.rangeAt b (f + i * 5) (C i).toArray.toList from rangeAt_below hra hb0 hbl)
      have HRB := Lib.hid (show wr.rangeAt b2 (f2 + i * 5) (C2 i).toArray.toList from rangeAt_below hra2 HE.out hbl2)
      have hwr := HE.out.size
      have hw0 := hb0.size
      have hbwA : b < wr.heap.size := by omega
      have hbwB : b2 < wr.heap.size := by omega
      have hw1s := hb.size
      have hblA : w.heap.size < wr.heap.size := by omega
      have hblB : w.heap.size + 1 < wr.heap.size := by omega
      have c3 : wr.cell? ⟨w.heap.size, 3, none⟩ = some (.slice (some ⟨b, f, none⟩) n c) := by rw [hb.cell (p := ⟨w.heap.size, 3, none⟩) (by show w.heap.size < _; omega)]; exact G3.out
      have d3 : wr.cell? ⟨w.heap.size + 1, 3, none⟩ = some (.slice (some ⟨b2, f2, none⟩) n c2) := by rw [hb.cell (p := ⟨w.heap.size + 1, 3, none⟩) (by show w.heap.size + 1 < _; omega)]; exact H3.out
      have HX := Lib.hid (show (C i).toArray.size = 5 by obtain ⟨_, _, _, he, _⟩ := (HEL.out i x hx).form; rw [he]; rfl)
      have HX2 := Lib.hid (show (C2 i).toArray.size = 5 by obtain ⟨_, _, _, he, _⟩ := (HEL2.out i x2 hx2).form; rw [he]; rfl)
      have HC : Hid (∀ W, Below wr.heap.size wr W → Calls Tryz.prog 243 #[.agg (C i).toArray, .agg (C2 i).toArray] W fun e w' => ∃ v, e = .returned v ∧ ∃ kk : Bool, v = .bool kk ∧ (kk = true ↔ x = x2) ∧ Below W.heap.size W w') := Lib.hid fun W hW =>
       (IH.out i x hx x2 (C2 i) W (hb0.trans (hW.mono hb0.size)) ((HEL2.out i x2 hx2).keep (HE.out.trans (hW.mono HE.out.size)) (Nat.le_refl _))).mono fun e w' ⟨⟨kk, he, hk⟩, hbb⟩ => ⟨_, he, kk, rfl, hk, hbb⟩
      have TS := Lib.hid (take_same hx hx2 htk.out)
      have HB1 := Lib.hid hb
      clear hend hx hx2 hra hra2 hb0 hb htk
      generalize (C i).toArray = X at *
      generalize (C2 i).toArray = X2 at *
      go_wp2_with fail
      have hS0 : Below wr.heap.size wr wr.drew := (Below.refl _ _).drew
      refine wp_region_held (S := fun W => Below wr.heap.size wr W) (by kernel_rfl) ?_
      change wpAnyH _ _ _ _ _ _ _ _ wr.drew
      refine takeH 0 rfl rfl (some 47) rfl (.pointer (some ⟨w.heap.size, 3, none⟩)) (by kernel_rfl) (by kernel_rfl) (by kernel_rfl) (fun _ _ _ h => h) (fun _ _ => by kernel_rfl) hS0 ?_
      simp only [Act.put, List.setIfInBounds_toArray, List.set_cons_zero, List.set_cons_succ]
      refine takeH 1 rfl rfl (some 48) rfl ((.slice (some ⟨b, f, none⟩) n c)) (by kernel_rfl) (by kernel_rfl) (by kernel_rfl) (fun _ _ _ h => h) (fun W hW => runLdCell (.tmp 47) rfl ⟨w.heap.size, 3, none⟩ rfl _ (by rw [hW.cell (p := ⟨w.heap.size, 3, none⟩) hblA]; exact c3)) hS0 ?_
      simp only [Act.put, List.setIfInBounds_toArray, List.set_cons_zero, List.set_cons_succ]
      refine takeH 2 rfl rfl (some 49) rfl (.int .i64 (i : Int)) (by kernel_rfl) (by kernel_rfl) (by kernel_rfl) (fun _ _ _ h => h) (fun _ _ => by kernel_rfl) hS0 ?_
      simp only [Act.put, List.setIfInBounds_toArray, List.set_cons_zero, List.set_cons_succ]
      refine takeH 3 rfl rfl (some 50) rfl (.pointer (some ⟨b, f + i * 5, none⟩)) (by kernel_rfl) (by kernel_rfl) (by kernel_rfl) (fun _ _ _ h => h) (fun W hW => runIdx (.tmp 48) (.tmp 49) rfl b f n c i rfl rfl hin) hS0 ?_
      simp only [Act.put, List.setIfInBounds_toArray, List.set_cons_zero, List.set_cons_succ]
      refine takeH 4 rfl rfl (some 51) rfl (.agg X) (by kernel_rfl) (by kernel_rfl) (by kernel_rfl) (fun _ _ _ h => h) (fun W hW => runLdItem (.tmp 50) rfl b (f + i * 5) rfl X HX.out (rangeAt_below HRA.out hW hbwA)) hS0 ?_
      simp only [Act.put, List.setIfInBounds_toArray, List.set_cons_zero, List.set_cons_succ]
      refine takeH 5 rfl rfl (some 52) rfl (.pointer (some ⟨w.heap.size + 1, 3, none⟩)) (by kernel_rfl) (by kernel_rfl) (by kernel_rfl) (fun _ _ _ h => h) (fun _ _ => by kernel_rfl) hS0 ?_
      simp only [Act.put, List.setIfInBounds_toArray, List.set_cons_zero, List.set_cons_succ]
      refine takeH 6 rfl rfl (some 53) rfl ((.slice (some ⟨b2, f2, none⟩) n c2)) (by kernel_rfl) (by kernel_rfl) (by kernel_rfl) (fun _ _ _ h => h) (fun W hW => runLdCell (.tmp 52) rfl ⟨w.heap.size + 1, 3, none⟩ rfl _ (by rw [hW.cell (p := ⟨w.heap.size + 1, 3, none⟩) hblB]; exact d3)) hS0 ?_
      simp only [Act.put, List.setIfInBounds_toArray, List.set_cons_zero, List.set_cons_succ]
      refine takeH 7 rfl rfl (some 54) rfl (.int .i64 (i : Int)) (by kernel_rfl) (by kernel_rfl) (by kernel_rfl) (fun _ _ _ h => h) (fun _ _ => by kernel_rfl) hS0 ?_
      simp only [Act.put, List.setIfInBounds_toArray, List.set_cons_zero, List.set_cons_succ]
      refine takeH 8 rfl rfl (some 55) rfl (.pointer (some ⟨b2, f2 + i * 5, none⟩)) (by kernel_rfl) (by kernel_rfl) (by kernel_rfl) (fun _ _ _ h => h) (fun W hW => runIdx (.tmp 53) (.tmp 54) rfl b2 f2 n c2 i rfl rfl hin) hS0 ?_
      simp only [Act.put, List.setIfInBounds_toArray, List.set_cons_zero, List.set_cons_succ]
      refine takeH 9 rfl rfl (some 56) rfl (.agg X2) (by kernel_rfl) (by kernel_rfl) (by kernel_rfl) (fun _ _ _ h => h) (fun W hW => runLdItem (.tmp 55) rfl b2 (f2 + i * 5) rfl X2 HX2.out (rangeAt_below HRB.out hW hbwB)) hS0 ?_
      simp only [Act.put, List.setIfInBounds_toArray, List.set_cons_zero, List.set_cons_succ]
      refine oneH 10 rfl rfl (by kernel_rfl) fun K hK => ?_
      refine wpH_callE (some 57) rfl 243 #[.agg X, .agg X2] (by kernel_rfl) _ (HC.out _ hS0) fun vk wc hc => ?_
      simp only [Act.put, List.setIfInBounds_toArray, List.set_cons_zero, List.set_cons_succ]
      obtain ⟨kk, rfl, hiff, hbc⟩ := hc
      have hS1 : Below wr.heap.size wr wc := hS0.trans (hbc.mono hS0.size)
      refine hK _ _ hS1 fun _ => ?_
      clear hK K
      refine takeH 11 rfl rfl (some 58) rfl (.bool !kk) (by kernel_rfl) (by kernel_rfl) (by kernel_rfl) (fun _ _ _ h => h) (fun _ _ => by kernel_rfl) hS1 ?_
      simp only [Act.put, List.setIfInBounds_toArray, List.set_cons_zero, List.set_cons_succ]
      refine wpAnyH_done (by kernel_rfl) ?_ _
      have HW := Lib.hid (HB1.out.trans (hS1.mono hw1s))
      have HWE := Lib.hid (HE.out.trans (hS1.mono hwr))
      clear hS0 hS1 hbc HB1 HC
      cases kk with
      | true =>
       have HA := Lib.hid (TS.out.1 (hiff.1 rfl))
       clear hiff
       go_wp2
       go_round
       case rel => exact ⟨i + 1, by omega, by go_num, HA, HW.out⟩
       case measure => simp [intOf]; omega
      | false =>
       have HA := Lib.hid (HFIN.out false ⟨fun e => (by cases e), fun e => absurd e (TS.out.2 (fun e2 => by have := hiff.2 e2; cases this))⟩)
       clear hiff
       go_wp2
       go_ret
       exact ⟨HA.out, HWE.out⟩
   ·
    have HH := Lib.hid hh
    have HFIN : Hid (SameP (.mk k tn s l o) (.mk k2 tn2 s2 l2 o2) (.returned (.bool false))) := Lib.hid ⟨false, rfl, ⟨fun e => (by cases e), fun e => by injection e with e1 e2 e3 e4 e5; exact absurd ⟨e1, e2, e3, e5, by rw [e4]⟩ hh⟩⟩
    obtain ⟨n, hln⟩ : ∃ n, l.length = n := ⟨_, rfl⟩
    obtain ⟨n2, hln2⟩ : ∃ n2, l2.length = n2 := ⟨_, rfl⟩
    rw [hln, hln2]
    have HL := Lib.hid hln
    have HL2 := Lib.hid hln2
    clear hh hln hln2 hat hel hat2 hel2 ih hyk hbw
    go_enter Tryz.func243, Tryz.ntmps243
    go_wp2_with fail
    all_goals first
     | (go_ret; exact ⟨HFIN.out, by ((repeat' (with_reducible first | exact Below.refl _ _ | assumption | refine Below.drew ?_ | refine below_drewN ?_ _ | refine Below.setCell ?_ ?_ _ | refine Below.alloc ?_ ?_ _ | refine Below.ext ?_ ?_ _ | refine Below.trans ?_ (Below.mono ‹_› ?_))) <;> first | omega | (simp; done) | (simp; omega))⟩)
     | (exfalso; refine HH.out ⟨by first | assumption | omega, by first | assumption | omega, by first | assumption | omega, by first | assumption | simp_all, by rw [HL.out, HL2.out]; first | assumption | omega | (have hq := ‹((n : Int) != (n2 : Int)) = false›; simp at hq; omega)⟩)
set_option maxHeartbeats 1600000 in
set_option maxRecDepth 100000 in
theorem Same_any (t y : Tr) (cs ds : List Value) (w : World) (h : TAt w t cs) (h2 : TAt w y ds) : Calls Tryz.prog 219 #[.agg cs.toArray, .agg ds.toArray] w fun e w' => (∃ k, e = .returned (.bool k) ∧ (k = true ↔ rightT 8 t = true ∧ rightT 8 y = true ∧ t = y)) ∧ Below w.heap.size w w' := by
 have HR := Lib.hid fun (W : World) (hb : Below w.heap.size w W) => iRight_any t cs W (h.keep hb (Nat.le_refl _))
 have HR2 := Lib.hid fun (W : World) (hb : Below w.heap.size w W) => iRight_any y ds W (h2.keep hb (Nat.le_refl _))
 have HS := Lib.hid fun (W : World) (hb : Below w.heap.size w W) => same_any h y ds W hb (h2.keep hb (Nat.le_refl _))
 obtain ⟨R, hRR⟩ : ∃ R : Ending → Prop, R = fun e => ∃ k, e = .returned (.bool k) ∧ (k = true ↔ rightT 8 t = true ∧ rightT 8 y = true ∧ t = y) := ⟨_, rfl⟩
 have HRR := Lib.hid hRR
 suffices hh : Calls Tryz.prog 219 #[.agg cs.toArray, .agg ds.toArray] w fun e w' => R e ∧ Below w.heap.size w w' by
  rw [hRR] at hh; exact hh
 have h5 : cs.toArray.size = 5 := by obtain ⟨_, _, _, he, _⟩ := h.form; rw [he]; rfl
 have h6 : ds.toArray.size = 5 := by obtain ⟨_, _, _, he, _⟩ := h2.form; rw [he]; rfl
 have HF : ∀ k : Bool, (k = true ↔ rightT 8 t = true ∧ rightT 8 y = true ∧ t = y) → R (.returned (.bool k)) := fun k hk => by rw [hRR]; exact ⟨k, rfl, hk⟩
 have HF := Lib.hid HF
 generalize rightT 8 t = ra at *
 generalize rightT 8 y = rb at *
 generalize cs.toArray = X at *
 generalize ds.toArray = Y at *
 have H5 := Lib.hid h5
 have H6 := Lib.hid h6
 clear h h2 h5 h6 hRR HRR
 go_enter Tryz.func219, Tryz.ntmps219
 go_wp2_with (with_reducible refine stop_load 89 rfl ?_)
 obtain ⟨w1, hw1⟩ : ∃ w1, (w.alloc (.cells X 89)).alloc (.cells Y 89) = w1 := ⟨_, rfl⟩
 have gS : w1.heap.size = w.heap.size + 1 + 1 := by rw [← hw1]; show ((w.heap.push _).push _).size = _; simp
 have gb : Below w.heap.size w w1 := by rw [← hw1]; exact ((Below.refl _ _).alloc (Nat.le_refl _) _).alloc (by show w.heap.size ≤ (w.heap.push _).size; simp) _
 have g3 : w1.heap[w.heap.size]? = some (.cells X 89 (0, 0)) := by rw [← hw1]; exact heap_under (heap_alloc_last w _)
 have h3 : w1.heap[w.heap.size + 1]? = some (.cells Y 89 (0, 0)) := by rw [← hw1]; exact heap_at (by show (w.heap.push _).size = _; simp)
 rw [hw1]
 clear hw1
 refine load_mid 89 (.tmp 2) rfl rfl (some 5) rfl w.heap.size 0 rfl X (rangeAt_row g3) _ Tryz.underlying89 rfl (by rw [H5.out]; exact infoI) ?_
 have GB := Lib.hid gb
 have G3 := Lib.hid g3
 have H3 := Lib.hid h3
 have hl1 : w.heap.size < w1.heap.size := by omega
 have hl2 : w.heap.size + 1 < w1.heap.size := by omega
 clear gb g3 h3
 go_wp2_with fail
 refine (HR.out _ GB.out).mono ?_
 rintro e w2 ⟨rfl, hb2⟩
 have G2 := Lib.hid (GB.out.trans (hb2.mono GB.out.size))
 have GX2 := Lib.hid (heap_below hb2 hl1 G3.out)
 have GY2 := Lib.hid (heap_below hb2 hl2 H3.out)
 have hs2 := hb2.size
 clear hb2 HR G3 H3 GB
 cases ra with
 | false =>
  have HE := Lib.hid (HF.out false (by simp))
  go_wp2
  go_ret
  exact ⟨HE.out, G2.out⟩
 | true =>
  go_wp2_with (with_reducible refine stop_load 89 rfl ?_)
  refine load_mid_g 89 (.tmp 3) rfl rfl (some 8) rfl (w.heap.size + 1) 0 rfl Y (rangeAt_row GY2.out) _ Tryz.underlying89 rfl (by rw [H6.out]; exact infoI) ?_
  go_wp2_with fail
  refine (HR2.out _ G2.out).mono ?_
  rintro e w3 ⟨rfl, hb3⟩
  have K3 := Lib.hid (G2.out.trans (hb3.mono G2.out.size))
  have GX3 := Lib.hid (heap_below hb3 (by omega) GX2.out)
  have GY3 := Lib.hid (heap_below hb3 (by omega) GY2.out)
  clear hb3 HR2 G2 GX2 GY2
  cases rb with
  | false =>
   have HE := Lib.hid (HF.out false (by simp))
   go_wp2
   go_ret
   exact ⟨HE.out, K3.out⟩
  | true =>
   go_wp2_with (with_reducible refine stop_load 89 rfl ?_)
   refine load_mid_g 89 (.tmp 2) rfl rfl (some 12) rfl w.heap.size 0 rfl X (rangeAt_row GX3.out) _ Tryz.underlying89 rfl (by rw [H5.out]; exact infoI) ?_
   go_wp2_with (with_reducible refine stop_load 89 rfl ?_)
   refine load_mid_g 89 (.tmp 3) rfl rfl (some 13) rfl (w.heap.size + 1) 0 rfl Y (rangeAt_row GY3.out) _ Tryz.underlying89 rfl (by rw [H6.out]; exact infoI) ?_
   go_wp2_with fail
   refine (HS.out _ K3.out).mono ?_
   rintro e w4 ⟨⟨k, rfl, hk⟩, hb4⟩
   have K4 := Lib.hid (K3.out.trans (hb4.mono K3.out.size))
   have HE := Lib.hid (HF.out k (by simp [hk]))
   clear hb4 hk
   go_wp2
   go_ret
   exact ⟨HE.out, K4.out⟩
def dg (n : Nat) : Nat → List UInt8
 | 0 => []
 | i + 1 => UInt8.ofNat (n / 256 ^ i) :: dg n i
theorem dg_length (n : Nat) : ∀ i, (dg n i).length = i
 | 0 => rfl
 | i + 1 => by rw [dg, List.length_cons, dg_length n i]
def headB (m n : Nat) : List UInt8 :=
 if n < 24 then [UInt8.ofNat (32 * m + n)]
 else if n < 256 then UInt8.ofNat (32 * m + 24) :: dg n 1
 else if n < 65536 then UInt8.ofNat (32 * m + 25) :: dg n 2
 else if n < 4294967296 then UInt8.ofNat (32 * m + 26) :: dg n 4
 else UInt8.ofNat (32 * m + 27) :: dg n 8
theorem headB_length (m n : Nat) : 1 ≤ (headB m n).length ∧ (headB m n).length ≤ 9 := by
 unfold headB
 repeat' split
 all_goals simp [dg_length]
mutual
def bytesB : Tr → List UInt8
 | .mk k n s l o => if k = 0 then headB 0 n else if k < 4 then headB k.toNat s.length ++ s else (if o then [159] else headB 4 l.length) ++ (bytesL l ++ (if o then [255] else []))
def bytesL : List Tr → List UInt8
 | [] => []
 | t :: ts => bytesB t ++ bytesL ts
end
theorem bytesL_append : ∀ a b, bytesL (a ++ b) = bytesL a ++ bytesL b
 | [], b => by simp [bytesL]
 | x :: a, b => by rw [List.cons_append, bytesL, bytesL, bytesL_append a b, List.append_assoc]
theorem bytesL_take {l : List Tr} {i : Nat} {x : Tr} (h : l[i]? = some x) : bytesL (l.take (i + 1)) = bytesL (l.take i) ++ bytesB x := by
 rw [List.take_add_one, h, bytesL_append]
 simp [bytesL]
mutual
theorem bytesB_len : ∀ t : Tr, (bytesB t).length ≤ 10 * szT t
 | .mk k n s l o => by
  have h0 := (headB_length 0 n).2
  have h1 := (headB_length k.toNat s.length).2
  have h2 := (headB_length 4 l.length).2
  have h3 := bytesL_len l
  rw [bytesB, szT]
  split
  · omega
  ·
   split
   · simp; omega
   · cases o <;> simp <;> omega
theorem bytesL_len : ∀ l : List Tr, (bytesL l).length ≤ 10 * szL l
 | [] => by simp [bytesL]
 | t :: ts => by
  have h1 := bytesB_len t
  have h2 := bytesL_len ts
  rw [bytesL, szL, List.length_append]
  omega
end
theorem szL_take_le {l : List Tr} (i : Nat) : szL (l.take i) ≤ szL l := by
 have h := szL_append (l.take i) (l.drop i)
 rw [List.take_append_drop] at h
 omega
theorem szT_mem {l : List Tr} {i : Nat} {x : Tr} (h : l[i]? = some x) : szT x ≤ szL l := by
 have h1 := szL_take h
 have h2 := szL_take_le (l := l) (i + 1)
 omega
theorem runLdU64 {o : Oper} {a : Act} {w : World} (x : Operand) (ho : o.op = .load 22 x) (p : Addr) (hx : a.eval x = .pointer (some p)) (v : Value) (hc : w.cell? p = some v) : (execOp a.eval o).run Tryz.prog w = .ok (.value v) w := by
 unfold execOp
 simp only [ho, hx]
 go_simp
theorem runLdStr {o : Oper} {a : Act} {w : World} (x : Operand) (ho : o.op = .load 9 x) (p : Addr) (hx : a.eval x = .pointer (some p)) (v : Value) (hc : w.cell? p = some v) : (execOp a.eval o).run Tryz.prog w = .ok (.value v) w := by
 unfold execOp
 simp only [ho, hx]
 go_simp
end Go.Proofs.YtcdjakemdlinhaaGreatDoor.Itm
namespace Go.Proofs.YtcdjakemdlinhaaGreatDoor.Eid
open Go.ChangeShapes Go.WideShapes Go.ChangeAt Go.RowKit


theorem namedB_long (l : List UInt8) (h : 60 < l.length) : namedB l = false := by
 unfold namedB nodeN
 rw [if_neg (by omega)]
 have : (l == [110, 111, 110, 101]) = false := by
  rw [beq_eq_false_iff_ne]
  intro h'
  rw [h'] at h
  simp at h
 rw [this]; rfl
end Go.Proofs.YtcdjakemdlinhaaGreatDoor.Eid
namespace Go.Proofs.YtcdjakemdlinhaaGreatDoor
open Go.ChangeShapes Go.WideShapes Go.ChangeAt Go.RowKit Go.Deep
def blank (n : Nat) (w : World) : World := { w with heap := w.heap.mapIdx fun k o => if k < n then .cells #[] 0 (0, 0) else o }
theorem blank_size (n : Nat) (w : World) : (blank n w).heap.size = w.heap.size := by simp [blank]
theorem blank_at {n : Nat} {w : World} {k : Nat} (h : n ≤ k) : (blank n w).heap[k]? = w.heap[k]? := by
 simp only [blank, Array.getElem?_mapIdx]
 rw [show (fun o => if k < n then Obj.cells #[] 0 (0, 0) else o) = id from funext fun o => by rw [if_neg (by omega)]; rfl]
 simp
theorem blank_under {n : Nat} {w : World} {k : Nat} (h : k < n) : (blank n w).heap[k]? = (w.heap[k]?).map fun _ => .cells #[] 0 (0, 0) := by
 simp only [blank, Array.getElem?_mapIdx]
 rw [show (fun o => if k < n then Obj.cells #[] 0 (0, 0) else o) = fun _ => .cells #[] 0 (0, 0) from funext fun o => by rw [if_pos h]]
theorem blank_ext {n : Nat} {w w' : World} (hs : w.heap.size = w'.heap.size) (ht : w.tape = w'.tape) (hd : w.drawn = w'.drawn) (ho : w.os = w'.os) (hp : w.output = w'.output) (h : ∀ k, n ≤ k → w.heap[k]? = w'.heap[k]?) : blank n w = blank n w' := by
 obtain ⟨h1, t1, d1, o1, p1⟩ := w
 obtain ⟨h2, t2, d2, o2, p2⟩ := w'
 simp only at hs ht hd ho hp h
 subst ht hd ho hp
 simp only [blank, World.mk.injEq, and_true]
 apply Array.ext_getElem?
 intro k
 by_cases hk : n ≤ k
 ·
  have e1 := blank_at (w := ⟨h1, t1, d1, o1, p1⟩) hk
  have e2 := blank_at (w := ⟨h2, t1, d1, o1, p1⟩) hk
  exact e1.trans ((h k hk).trans e2.symm)
 ·
  have e1 := blank_under (w := ⟨h1, t1, d1, o1, p1⟩) (show k < n by omega)
  have e2 := blank_under (w := ⟨h2, t1, d1, o1, p1⟩) (show k < n by omega)
  refine e1.trans (Eq.trans ?_ e2.symm)
  by_cases hk2 : k < h1.size
  ·
   have hk3 : k < h2.size := by omega
   show Option.map _ h1[k]? = Option.map _ h2[k]?
   rw [Array.getElem?_eq_getElem hk2, Array.getElem?_eq_getElem hk3]; rfl
  ·
   have hk3 : h2.size ≤ k := by omega
   show Option.map _ h1[k]? = Option.map _ h2[k]?
   rw [Array.getElem?_eq_none (by omega), Array.getElem?_eq_none hk3]
theorem blank_setRow {n : Nat} (w : World) {r : Nat} (c : Array Value) (h : r < n) : blank n (w.setRow r c) = blank n w :=
 blank_ext (by simp [World.setRow]) rfl rfl rfl rfl fun k hk => setRow_other _ _ _ _ (by omega)
theorem blank_below {n B : Nat} {w w' : World} (h : Below B w w') : Below B (blank n w) (blank n w') := by
 obtain ⟨h1, h2, h3, h4, h5⟩ := h
 refine ⟨h1, h2, h3, by rw [blank_size, blank_size]; exact h4, fun k hk => ?_⟩
 by_cases hn : n ≤ k
 · rw [blank_at hn, blank_at hn]; exact h5 k hk
 · rw [blank_under (by omega), blank_under (by omega), h5 k hk]
theorem blank_cell {n : Nat} {w : World} {a : Addr} {v : Value} (h : (blank n w).cell? a = some v) : w.cell? a = some v := by
 unfold World.cell? at h ⊢
 by_cases hn : n ≤ a.block
 · rw [blank_at hn] at h; exact h
 ·
  exfalso
  rw [blank_under (by omega)] at h
  cases hw : w.heap[a.block]? with
  | none => rw [hw] at h; simp at h
  | some o => rw [hw] at h; simp at h
theorem blank_range {n : Nat} {w : World} {b o : Nat} {cs : List Value} (h : (blank n w).rangeAt b o cs) : w.rangeAt b o cs := fun j v hj => blank_cell (h j v hj)
theorem blank_alloc {n : Nat} {w : World} (o : Obj) (h : n ≤ w.heap.size) : blank n (w.alloc o) = (blank n w).alloc o := by
 have e : (blank n (w.alloc o)).heap = ((blank n w).alloc o).heap := by
  apply Array.ext_getElem?
  intro k
  have hp : ∀ (u : World), (u.alloc o).heap[k]? = if k = u.heap.size then some o else u.heap[k]? := fun u => by
   show (u.heap.push o)[k]? = _
   rw [Array.getElem?_push]
  by_cases hk : n ≤ k
  · rw [blank_at hk, hp, hp, blank_size, blank_at hk]
  · rw [blank_under (by omega), hp, hp, blank_size, if_neg (by omega), if_neg (by omega), blank_under (by omega)]
 have : ∀ (a b : World), a.heap = b.heap → a.tape = b.tape → a.drawn = b.drawn → a.os = b.os → a.output = b.output → a = b := by
  rintro ⟨⟩ ⟨⟩ h1 h2 h3 h4 h5
  simp only at h1 h2 h3 h4 h5
  subst h1 h2 h3 h4 h5
  rfl
 exact this _ _ e rfl rfl rfl rfl
end Go.Proofs.YtcdjakemdlinhaaGreatDoor
namespace Go.Proofs.YtcdjakemdlinhaaGreatDoor.Itm
open Go.ChangeShapes Go.WideShapes Go.ChangeAt Go.RowKit Go.Deep Go.Proofs.YtcdjakemdlinhaaGreatDoor.Eid
def numT (n : Nat) : Tr := .mk 0 n [] [] false
def arrT (l : List Tr) : Tr := .mk 4 0 [] l false
def twoT (s : Nat) (l : List UInt8) (n v : Nat) : Tr := if s = 2 then arrT [numT n, numT v] else if l = [110, 111, 110, 101] then numT 0 else .mk 3 0 l [] false
def nameT (s : Nat) (l : List UInt8) (n v : Nat) : Tr := arrT [numT s, twoT s l n v]
theorem tat_num (w : World) (n : Nat) (hn : n < W64) : TAt w (numT n) [.int .i64 0, .int .u64 n, .string (B []), .slice none 0 0, .bool false] :=
 .mk 0 n [] [] false none 0 (fun _ => []) hn (by simp [R47]) (by simp [R47]) (fun i hi => by simp at hi) (fun i t hi => by simp at hi)
theorem tat_text (w : World) (l : List UInt8) (hl : l.length ≤ R47) : TAt w (.mk 3 0 l [] false) [.int .i64 3, .int .u64 (0 : Nat), .string (B l), .slice none 0 0, .bool false] :=
 .mk 3 0 l [] false none 0 (fun _ => []) (by decide) hl (by simp [R47]) (fun i hi => by simp at hi) (fun i t hi => by simp at hi)
theorem tat_two {w : World} {x y : Tr} {cx cy : List Value} {g : Nat} (hx : TAt w x cx) (hy : TAt w y cy) (hg : g < w.heap.size) (hc : w.rangeAt g 0 (cx ++ cy)) (h5 : cx.length = 5) :
  TAt w (arrT [x, y]) [.int .i64 4, .int .u64 (0 : Nat), .string (B []), .slice (some ⟨g, 0, none⟩) 2 2, .bool false] := by
 refine .mk 4 0 [] [x, y] false (some ⟨g, 0, none⟩) 2 (fun i => if i = 0 then cx else cy) (by decide) (by simp [R47]) (by simp [R47]) (fun i hi => ?_) (fun i t hi => ?_)
 ·
  refine ⟨g, 0, rfl, hg, fun j v hv => ?_⟩
  simp only [List.length_cons, List.length_nil] at hi
  have : i = 0 ∨ i = 1 := by omega
  rcases this with rfl | rfl
  ·
   simp only [if_pos] at hv
   have hj : j < cx.length := (List.getElem?_eq_some_iff.1 hv).1
   have := hc j v (by rw [List.getElem?_append_left hj]; exact hv)
   simpa using this
  ·
   simp only [if_neg (show ¬ (1 : Nat) = 0 by decide)] at hv
   have := hc (5 + j) v (by rw [List.getElem?_append_right (by omega), h5, Nat.add_sub_cancel_left]; exact hv)
   simpa using this
 ·
  match i, hi with
  | 0, hi => simp at hi; subst hi; exact hx
  | 1, hi => simp at hi; subst hi; exact hy
theorem tat_len {w : World} {t : Tr} {cs : List Value} (h : TAt w t cs) : cs.length = 5 := by
 obtain ⟨_, _, _, rfl, _⟩ := h.form; rfl
theorem TAt.unblank {n : Nat} {w : World} {t : Tr} {cs : List Value} (h : TAt (blank n w) t cs) : TAt w t cs := by
 induction h with
 | mk k m s l o a c C hn hs hl hat hel ih =>
  refine .mk k m s l o a c C hn hs hl (fun i hi => ?_) ih
  obtain ⟨b, f, rfl, hbl, hr⟩ := hat i hi
  exact ⟨b, f, rfl, by rw [blank_size] at hbl; exact hbl, blank_range hr⟩
set_option maxRecDepth 100000 in
theorem Num_any (n : Nat) (w : World) : Calls Tryz.prog 40 #[.int .u64 n] w fun e w' => e = .returned (.agg #[.int .i64 0, .int .u64 n, .string (B []), .slice none 0 0, .bool false]) ∧ Below w.heap.size w w' := by
 go_enter Tryz.func40, Tryz.ntmps40
 go_wp2
 exact bodyPost_ret (v := .agg #[.int .i64 0, .int .u64 n, .string ⟨#[]⟩, .slice none 0 0, .bool false]) (by simp [results, Tryz.results40, go_sem]) rfl ⟨rfl, by ((repeat' (with_reducible first | exact Below.refl _ _ | assumption | refine Below.drew ?_ | refine below_drewN ?_ _ | refine Below.setCell ?_ ?_ _ | refine Below.alloc ?_ ?_ _ | refine Below.ext ?_ ?_ _ | refine Below.trans ?_ (Below.mono ‹_› ?_))) <;> first | omega | (simp; done) | (simp; omega))⟩
set_option maxRecDepth 100000 in
theorem List_any (a : Option Addr) (n c : Nat) (w : World) : Calls Tryz.prog 178 #[.slice a n c] w fun e w' => e = .returned (.agg #[.int .i64 4, .int .u64 (0 : Nat), .string (B []), .slice a n c, .bool false]) ∧ Below w.heap.size w w' := by
 go_enter Tryz.func178, Tryz.ntmps178
 go_wp2
 exact bodyPost_ret (v := .agg #[.int .i64 4, .int .u64 0, .string ⟨#[]⟩, .slice a n c, .bool false]) (by simp [results, Tryz.results178, go_sem]) rfl ⟨rfl, by ((repeat' (with_reducible first | exact Below.refl _ _ | assumption | refine Below.drew ?_ | refine below_drewN ?_ _ | refine Below.setCell ?_ ?_ _ | refine Below.alloc ?_ ?_ _ | refine Below.ext ?_ ?_ _ | refine Below.trans ?_ (Below.mono ‹_› ?_))) <;> first | omega | (simp; done) | (simp; omega))⟩
def TwoI (s : Nat) (l : List UInt8) (n v : Nat) (w : World) (e : Ending) (w' : World) : Prop := ∃ cs, e = .returned (.tuple #[.agg cs.toArray, .int .i64 0]) ∧ TAt w' (nameT s l n v) cs ∧ Below w.heap.size w w'
set_option maxRecDepth 100000 in
theorem Item_no (s : Int) (l : List UInt8) (n v : Nat) (w : World) (hl : l.length ≤ maxLen) (h : rightB s l n v = false) : Calls Tryz.prog 177 #[.agg #[.int .i64 s, .string (B l), .int .u64 n, .int .u64 v]] w fun e w' => e = .returned (.tuple #[.agg #[.int .i64 0, .int .u64 0, .string (B []), .slice none 0 0, .bool false], .int .i64 1]) ∧ Below w.heap.size w w' := by
 have H := Lib.hid h
 clear h
 go_enter Tryz.func177, Tryz.ntmps177
 go_wp2_with (go_at_call 37; refine (Right_any _ _ _ _ _ hl).mono ?_; rw [H.out]; rintro e w1 ⟨rfl, hb⟩; obtain ⟨hc0, hf0⟩ := bat hb w.heap.size (by simp; omega); obtain ⟨hc1, hf1⟩ := bat hb (w.heap.size + 1) (by simp); have hz := hb.size; simp at hz)
 exact bodyPost_ret (v := .tuple #[.agg #[.int .i64 0, .int .u64 0, .string (B []), .slice none 0 0, .bool false], .int .i64 1]) (by simp [results, Tryz.results177, go_sem, hc0, hf0, hc1, hf1, hz]; rfl) rfl ⟨rfl, by ((repeat' (with_reducible first | exact Below.refl _ _ | assumption | refine Below.drew ?_ | refine below_drewN ?_ _ | refine Below.setCell ?_ ?_ _ | refine Below.alloc ?_ ?_ _ | refine Below.ext ?_ ?_ _ | refine Below.trans ?_ (Below.mono ‹_› ?_))) <;> first | omega | (simp; done) | (simp; omega))⟩
theorem runBldI2 {o : Oper} {a : Act} {w : World} (x y : Operand) {x0 x1 x2 x3 x4 y0 y1 y2 y3 y4 : Value} (ho : o.op = .buildSlice 87 2 #[(0, x), (1, y)]) (hx : a.eval x = .agg #[x0, x1, x2, x3, x4]) (hy : a.eval y = .agg #[y0, y1, y2, y3, y4]) :
  (execOp a.eval o).run Tryz.prog w = .ok (.value (.slice (some ⟨w.heap.size, 0, none⟩) 2 2)) (w.alloc (.cells #[x0, x1, x2, x3, x4, y0, y1, y2, y3, y4] 89)) := by
 unfold execOp
 simp only [ho, List.map_toArray, List.map_cons, List.map_nil, hx, hy]
 go_simp
set_option maxHeartbeats 1600000 in
set_option maxRecDepth 100000 in
theorem Item_text (l : List UInt8) (w : World) (hl : l.length ≤ maxLen) (hl2 : l.length ≤ R47) (hne : (l == [110, 111, 110, 101]) = false) (h : rightB 1 l 0 0 = true) : Calls Tryz.prog 177 #[.agg #[.int .i64 1, .string (B l), .int .u64 0, .int .u64 0]] w (TwoI 1 l 0 0 w) := by
 have H := Lib.hid h
 have HL := Lib.hid hl2
 have HT : Hid (nameT 1 l 0 0 = arrT [numT 1, .mk 3 0 l [] false]) := Lib.hid (by
  unfold nameT twoT
  rw [if_neg (by decide), if_neg (by simpa using hne)])
 clear h hl2
 go_enter Tryz.func177, Tryz.ntmps177
 go_wp2_with fail
 obtain ⟨w0, hw0⟩ : ∃ w0, (w.alloc (.cells #[.int .i64 1, .string (B l), .int .u64 0, .int .u64 0] 24)).alloc (.cells #[.int .i64 0, .int .u64 0, .string ⟨#[]⟩, .slice none 0 0, .bool false] 89) = w0 := ⟨_, rfl⟩
 have gS : w0.heap.size = w.heap.size + 1 + 1 := by rw [← hw0]; show ((w.heap.push _).push _).size = _; simp
 have gb : Below w.heap.size w w0 := by rw [← hw0]; exact ((Below.refl _ _).alloc (Nat.le_refl _) _).alloc (by show w.heap.size ≤ (w.heap.push _).size; simp) _
 have g0 : w0.heap[w.heap.size]? = some (.cells #[.int .i64 1, .string (B l), .int .u64 0, .int .u64 0] 24 (0, 0)) := by rw [← hw0]; exact heap_under (heap_alloc_last w _)
 have g9 : w0.heap[w.heap.size + 1]? = some (.cells #[.int .i64 0, .int .u64 0, .string ⟨#[]⟩, .slice none 0 0, .bool false] 89 (0, 0)) := by rw [← hw0]; exact heap_at (by show (w.heap.push _).size = _; simp)
 rw [hw0]
 clear hw0
 refine (Right_any _ _ _ _ _ (by first | exact hl | decide)).mono ?_
 rw [H.out]
 rintro e w1 ⟨rfl, hb⟩
 have hz0 : w.heap.size < w1.heap.size := by have := hb.size; omega
 have hz1 : w.heap.size + 1 < w1.heap.size := by have := hb.size; omega
 have c9 := heap_below hb (by omega) g9
 have q0 := heap_below hb (by omega) g0
 have c0 : w1.cell? ⟨w.heap.size, 0, none⟩ = some (.int .i64 1) := by rw [cell_of_row _ _ _ _ _ _ q0]; rfl
 have c1 : w1.cell? ⟨w.heap.size, 1, none⟩ = some (.string (B l)) := by rw [cell_of_row _ _ _ _ _ _ q0]; rfl
 have HB := Lib.hid (gb.trans (hb.mono (by omega)))
 clear hb gS gb g0 g9 q0
 go_wp2_with fail
 have hEr : ∀ W : World, (fun W W' => Below W.heap.size W W') W W := fun W => Below.refl _ _
 refine wp_region_rel 6 2 0 (fun W => Below w1.heap.size w1 W) [32, 33, 34, 35, 36, 37] (relAt [fun zv _ => zv = .agg #[.int .i64 0, .int .u64 (1 : Nat), .string (B []), .slice none 0 0, .bool false], fun zv _ => zv = .pointer (some ⟨w.heap.size, 1, none⟩), fun zv _ => zv = .string (B l), fun zv _ => zv = .agg #[.int .i64 3, .int .u64 (0 : Nat), .string (B l), .slice none 0 0, .bool false], fun zv W => ∃ g, zv = .slice (some ⟨g, 0, none⟩) 2 2 ∧ TAt (blank w1.heap.size W) (arrT [numT 1, .mk 3 0 l [] false]) [.int .i64 4, .int .u64 (0 : Nat), .string (B []), .slice (some ⟨g, 0, none⟩) 2 2, .bool false], fun zv W => ∃ g, zv = .agg #[.int .i64 4, .int .u64 (0 : Nat), .string (B []), .slice (some ⟨g, 0, none⟩) 2 2, .bool false] ∧ TAt (blank w1.heap.size W) (arrT [numT 1, .mk 3 0 l [] false]) [.int .i64 4, .int .u64 (0 : Nat), .string (B []), .slice (some ⟨g, 0, none⟩) 2 2, .bool false]]) (fun W W' => Below W.heap.size W W') (by kernel_rfl) rfl rfl (by kernel_rfl) (by kernel_rfl) (by kernel_rfl) (by kernel_rfl) (Mono.at ⟨fun _ _ _ _ h => h, fun _ _ _ _ h => h, fun _ _ _ _ h => h, fun _ _ _ _ h => h, fun _ _ _ hb ⟨g, h1, h2⟩ => ⟨g, h1, h2.keep (blank_below hb) (by rw [blank_size]; exact Nat.le_refl _)⟩, fun _ _ _ hb ⟨g, h1, h2⟩ => ⟨g, h1, h2.keep (blank_below hb) (by rw [blank_size]; exact Nat.le_refl _)⟩, trivial⟩) ((Below.refl _ _).drew) ⟨?_, ?_, ?_, ?_, ?_, ?_, trivial⟩ ?_
 ·
  refine relCall 0 rfl rfl 40 fun u wq hS hd => ?_
  simp only [fillL, Act.put, List.setIfInBounds_toArray, List.set_cons_zero, List.set_cons_succ]
  refine ⟨#[.int .u64 (1 : Nat)], by kernel_rfl, ?_⟩
  refine (Num_any 1 wq).mono ?_
  rintro e w' ⟨rfl, hb⟩
  exact ⟨_, rfl, hS.trans (hb.mono hS.size), hb, rfl⟩
 ·
  refine relQuiet 1 rfl rfl hEr (.pointer (some ⟨w.heap.size, 1, none⟩)) (fun _ => rfl) fun u wq hS hd => ?_
  simp only [fillL, Act.put, List.setIfInBounds_toArray, List.set_cons_zero, List.set_cons_succ]
  first | kernel_rfl | (show _ = _; kernel_rfl) | rfl
 ·
  refine relQuiet 2 rfl rfl hEr (.string (B l)) (fun _ => rfl) fun u wq hS hd => ?_
  have h1 : u 1 = .pointer (some ⟨w.heap.size, 1, none⟩) := hd 1 (by kernel_rfl)
  simp only [fillL, Act.put, List.setIfInBounds_toArray, List.set_cons_zero, List.set_cons_succ, h1]
  exact runLdStr (.tmp 33) rfl ⟨w.heap.size, 1, none⟩ rfl _ (by rw [hS.cell (p := ⟨w.heap.size, 1, none⟩) hz0]; exact c1)
 ·
  refine relQuiet 3 rfl rfl hEr (.agg #[.int .i64 3, .int .u64 (0 : Nat), .string (B l), .slice none 0 0, .bool false]) (fun _ => rfl) fun u wq hS hd => ?_
  have h2 : u 2 = .string (B l) := hd 2 (by kernel_rfl)
  simp only [fillL, Act.put, List.setIfInBounds_toArray, List.set_cons_zero, List.set_cons_succ, h2]
  first | kernel_rfl | (show _ = _; kernel_rfl) | rfl
 ·
  refine relRun 4 rfl rfl fun u wq hS hd => ?_
  have h0 : u 0 = .agg #[.int .i64 0, .int .u64 (1 : Nat), .string (B []), .slice none 0 0, .bool false] := hd 0 (by kernel_rfl)
  have h3 : u 3 = .agg #[.int .i64 3, .int .u64 (0 : Nat), .string (B l), .slice none 0 0, .bool false] := hd 3 (by kernel_rfl)
  simp only [fillL, Act.put, List.setIfInBounds_toArray, List.set_cons_zero, List.set_cons_succ, h0, h3]
  refine ⟨_, _, runBldI2 (.tmp 32) (.tmp 35) rfl rfl rfl, hS.alloc hS.size _, (Below.refl _ _).alloc (Nat.le_refl _) _, _, rfl, ?_⟩
  rw [blank_alloc _ hS.size]
  exact tat_two (tat_num _ 1 (by decide)) (tat_text _ l HL.out) (by rw [← blank_size w1.heap.size wq]; exact lt_of_last) (rangeAt_row (by rw [← blank_size w1.heap.size wq]; exact heap_alloc_last _ _)) rfl
 ·
  refine relCall 5 rfl rfl 178 fun u wq hS hd => ?_
  have h0 : u 0 = .agg #[.int .i64 0, .int .u64 (1 : Nat), .string (B []), .slice none 0 0, .bool false] := hd 0 (by kernel_rfl)
  have h4 : (fun zv W => ∃ g, zv = .slice (some ⟨g, 0, none⟩) 2 2 ∧ TAt (blank w1.heap.size W) (arrT [numT 1, .mk 3 0 l [] false]) [.int .i64 4, .int .u64 (0 : Nat), .string (B []), .slice (some ⟨g, 0, none⟩) 2 2, .bool false]) (u 4) wq := hd 4 (by kernel_rfl)
  obtain ⟨g4, e4, t4⟩ := h4
  simp only [fillL, Act.put, List.setIfInBounds_toArray, List.set_cons_zero, List.set_cons_succ, h0, e4]
  refine ⟨#[.slice (some ⟨g4, 0, none⟩) 2 2], by kernel_rfl, ?_⟩
  refine (List_any _ 2 2 wq).mono ?_
  rintro e w' ⟨rfl, hb⟩
  exact ⟨_, rfl, hS.trans (hb.mono hS.size), hb, _, rfl, t4.keep (blank_below hb) (by rw [blank_size]; exact Nat.le_refl _)⟩
 intro u w2 hS hv
 have h0 : u 0 = .agg #[.int .i64 0, .int .u64 (1 : Nat), .string (B []), .slice none 0 0, .bool false] := hv 0 (by decide)
 have h1 : u 1 = .pointer (some ⟨w.heap.size, 1, none⟩) := hv 1 (by decide)
 have h2 : u 2 = .string (B l) := hv 2 (by decide)
 have h3 : u 3 = .agg #[.int .i64 3, .int .u64 (0 : Nat), .string (B l), .slice none 0 0, .bool false] := hv 3 (by decide)
 have h4 : (fun zv W => ∃ g, zv = .slice (some ⟨g, 0, none⟩) 2 2 ∧ TAt (blank w1.heap.size W) (arrT [numT 1, .mk 3 0 l [] false]) [.int .i64 4, .int .u64 (0 : Nat), .string (B []), .slice (some ⟨g, 0, none⟩) 2 2, .bool false]) (u 4) w2 := hv 4 (by decide)
 obtain ⟨g4, e4, t4⟩ := h4
 have h5 : (fun zv W => ∃ g, zv = .agg #[.int .i64 4, .int .u64 (0 : Nat), .string (B []), .slice (some ⟨g, 0, none⟩) 2 2, .bool false] ∧ TAt (blank w1.heap.size W) (arrT [numT 1, .mk 3 0 l [] false]) [.int .i64 4, .int .u64 (0 : Nat), .string (B []), .slice (some ⟨g, 0, none⟩) 2 2, .bool false]) (u 5) w2 := hv 5 (by decide)
 obtain ⟨g5, e5, t5⟩ := h5
 simp only [fillL, Act.put, List.setIfInBounds_toArray, List.set_cons_zero, List.set_cons_succ, h0, h1, h2, h3, e4, e5]
 clear hEr hv h0 h1 h2 h3 e4 e5
 clear u
 refine wpAny_of_held (S := fun _ => True) _ _ _ _ ?_
 refine oneH 6 rfl rfl (by kernel_rfl) fun K hK => ?_
 refine wpH_store rfl 89 (.tmp 2) (.tmp 37) rfl (w.heap.size + 1) (#[.int .i64 4, .int .u64 (0 : Nat), .string (B []), .slice (some ⟨g5, 0, none⟩) 2 2, .bool false]) (#[.int .i64 0, .int .u64 0, .string ⟨#[]⟩, .slice none 0 0, .bool false]) 89 rfl rfl (heap_below hS hz1 c9) infoI rfl (by simp [Value.oneCell']) ?_
 refine hK _ _ trivial fun _ => ?_
 clear hK K
 refine oneH 7 rfl rfl (by kernel_rfl) fun K hK => ?_
 refine wpH_same (some 3) rfl (.int .i64 0) (by kernel_rfl) ?_
 simp only [Act.put, List.setIfInBounds_toArray, List.set_cons_zero, List.set_cons_succ]
 refine hK _ _ trivial fun _ => ?_
 clear hK K
 refine wpAnyH_done (by kernel_rfl) ?_ _
 go_wp2
 refine post_row_tmp (w.heap.size + 1) Tryz.results177 89 #[.int .i64 4, .int .u64 (0 : Nat), .string (B []), .slice (some ⟨g5, 0, none⟩) 2 2, .bool false] _ (.int .i64 0) rfl rfl (setRow_heap _ _ _ _ _ _ (heap_below hS hz1 c9)) Tryz.underlying89 rfl infoI rfl ⟨_, rfl, ?_, setRow_below _ (by omega) (HB.out.trans (hS.mono (by omega)))⟩
 rw [HT.out]
 exact TAt.unblank (n := w1.heap.size) (by rw [blank_setRow _ _ hz1]; exact t5)
set_option maxHeartbeats 1600000 in
set_option maxRecDepth 100000 in
theorem Item_ipn (n v : Nat) (w : World) (hn : n < W64) (hv : v < W64) (h : rightB 2 [] n v = true) : Calls Tryz.prog 177 #[.agg #[.int .i64 2, .string (B []), .int .u64 n, .int .u64 v]] w (TwoI 2 [] n v w) := by
 have H := Lib.hid h
 have HN := Lib.hid hn
 have HV := Lib.hid hv
 have HT : Hid (nameT 2 [] n v = arrT [numT 2, arrT [numT n, numT v]]) := Lib.hid rfl
 clear h hn hv
 go_enter Tryz.func177, Tryz.ntmps177
 go_wp2_with fail
 obtain ⟨w0, hw0⟩ : ∃ w0, (w.alloc (.cells #[.int .i64 2, .string (B []), .int .u64 (n : Nat), .int .u64 (v : Nat)] 24)).alloc (.cells #[.int .i64 0, .int .u64 0, .string ⟨#[]⟩, .slice none 0 0, .bool false] 89) = w0 := ⟨_, rfl⟩
 have gS : w0.heap.size = w.heap.size + 1 + 1 := by rw [← hw0]; show ((w.heap.push _).push _).size = _; simp
 have gb : Below w.heap.size w w0 := by rw [← hw0]; exact ((Below.refl _ _).alloc (Nat.le_refl _) _).alloc (by show w.heap.size ≤ (w.heap.push _).size; simp) _
 have g0 : w0.heap[w.heap.size]? = some (.cells #[.int .i64 2, .string (B []), .int .u64 (n : Nat), .int .u64 (v : Nat)] 24 (0, 0)) := by rw [← hw0]; exact heap_under (heap_alloc_last w _)
 have g9 : w0.heap[w.heap.size + 1]? = some (.cells #[.int .i64 0, .int .u64 0, .string ⟨#[]⟩, .slice none 0 0, .bool false] 89 (0, 0)) := by rw [← hw0]; exact heap_at (by show (w.heap.push _).size = _; simp)
 rw [hw0]
 clear hw0
 refine (Right_any _ _ _ _ _ (by first | exact hl | decide)).mono ?_
 rw [H.out]
 rintro e w1 ⟨rfl, hb⟩
 have hz0 : w.heap.size < w1.heap.size := by have := hb.size; omega
 have hz1 : w.heap.size + 1 < w1.heap.size := by have := hb.size; omega
 have c9 := heap_below hb (by omega) g9
 have q0 := heap_below hb (by omega) g0
 have c0 : w1.cell? ⟨w.heap.size, 0, none⟩ = some (.int .i64 2) := by rw [cell_of_row _ _ _ _ _ _ q0]; rfl
 have c2 : w1.cell? ⟨w.heap.size, 2, none⟩ = some (.int .u64 (n : Nat)) := by rw [cell_of_row _ _ _ _ _ _ q0]; rfl
 have c3 : w1.cell? ⟨w.heap.size, 3, none⟩ = some (.int .u64 (v : Nat)) := by rw [cell_of_row _ _ _ _ _ _ q0]; rfl
 have HB := Lib.hid (gb.trans (hb.mono (by omega)))
 clear hb gS gb g0 g9 q0
 go_wp2_with fail
 have hEr : ∀ W : World, (fun W W' => Below W.heap.size W W') W W := fun W => Below.refl _ _
 refine wp_region_rel 11 2 0 (fun W => Below w1.heap.size w1 W) [13, 14, 15, 16, 17, 18, 19, 20, 21, 22, 23] (relAt [fun zv _ => zv = .agg #[.int .i64 0, .int .u64 (2 : Nat), .string (B []), .slice none 0 0, .bool false], fun zv _ => zv = .pointer (some ⟨w.heap.size, 2, none⟩), fun zv _ => zv = .int .u64 (n : Nat), fun zv _ => zv = .agg #[.int .i64 0, .int .u64 (n : Nat), .string (B []), .slice none 0 0, .bool false], fun zv _ => zv = .pointer (some ⟨w.heap.size, 3, none⟩), fun zv _ => zv = .int .u64 (v : Nat), fun zv _ => zv = .agg #[.int .i64 0, .int .u64 (v : Nat), .string (B []), .slice none 0 0, .bool false], fun zv W => ∃ g, zv = .slice (some ⟨g, 0, none⟩) 2 2 ∧ TAt (blank w1.heap.size W) (arrT [numT n, numT v]) [.int .i64 4, .int .u64 (0 : Nat), .string (B []), .slice (some ⟨g, 0, none⟩) 2 2, .bool false], fun zv W => ∃ g, zv = .agg #[.int .i64 4, .int .u64 (0 : Nat), .string (B []), .slice (some ⟨g, 0, none⟩) 2 2, .bool false] ∧ TAt (blank w1.heap.size W) (arrT [numT n, numT v]) [.int .i64 4, .int .u64 (0 : Nat), .string (B []), .slice (some ⟨g, 0, none⟩) 2 2, .bool false], fun zv W => ∃ g, zv = .slice (some ⟨g, 0, none⟩) 2 2 ∧ TAt (blank w1.heap.size W) (arrT [numT 2, arrT [numT n, numT v]]) [.int .i64 4, .int .u64 (0 : Nat), .string (B []), .slice (some ⟨g, 0, none⟩) 2 2, .bool false], fun zv W => ∃ g, zv = .agg #[.int .i64 4, .int .u64 (0 : Nat), .string (B []), .slice (some ⟨g, 0, none⟩) 2 2, .bool false] ∧ TAt (blank w1.heap.size W) (arrT [numT 2, arrT [numT n, numT v]]) [.int .i64 4, .int .u64 (0 : Nat), .string (B []), .slice (some ⟨g, 0, none⟩) 2 2, .bool false]]) (fun W W' => Below W.heap.size W W') (by kernel_rfl) rfl rfl (by kernel_rfl) (by kernel_rfl) (by kernel_rfl) (by kernel_rfl) (Mono.at ⟨fun _ _ _ _ h => h, fun _ _ _ _ h => h, fun _ _ _ _ h => h, fun _ _ _ _ h => h, fun _ _ _ _ h => h, fun _ _ _ _ h => h, fun _ _ _ _ h => h, fun _ _ _ hb ⟨g, h1, h2⟩ => ⟨g, h1, h2.keep (blank_below hb) (by rw [blank_size]; exact Nat.le_refl _)⟩, fun _ _ _ hb ⟨g, h1, h2⟩ => ⟨g, h1, h2.keep (blank_below hb) (by rw [blank_size]; exact Nat.le_refl _)⟩, fun _ _ _ hb ⟨g, h1, h2⟩ => ⟨g, h1, h2.keep (blank_below hb) (by rw [blank_size]; exact Nat.le_refl _)⟩, fun _ _ _ hb ⟨g, h1, h2⟩ => ⟨g, h1, h2.keep (blank_below hb) (by rw [blank_size]; exact Nat.le_refl _)⟩, trivial⟩) ((Below.refl _ _).drew) ⟨?_, ?_, ?_, ?_, ?_, ?_, ?_, ?_, ?_, ?_, ?_, trivial⟩ ?_
 ·
  refine relCall 0 rfl rfl 40 fun u wq hS hd => ?_
  simp only [fillL, Act.put, List.setIfInBounds_toArray, List.set_cons_zero, List.set_cons_succ]
  refine ⟨#[.int .u64 (2 : Nat)], by kernel_rfl, ?_⟩
  refine (Num_any 2 wq).mono ?_
  rintro e w' ⟨rfl, hb⟩
  exact ⟨_, rfl, hS.trans (hb.mono hS.size), hb, rfl⟩
 ·
  refine relQuiet 1 rfl rfl hEr (.pointer (some ⟨w.heap.size, 2, none⟩)) (fun _ => rfl) fun u wq hS hd => ?_
  simp only [fillL, Act.put, List.setIfInBounds_toArray, List.set_cons_zero, List.set_cons_succ]
  first | kernel_rfl | (show _ = _; kernel_rfl) | rfl
 ·
  refine relQuiet 2 rfl rfl hEr (.int .u64 (n : Nat)) (fun _ => rfl) fun u wq hS hd => ?_
  have h1 : u 1 = .pointer (some ⟨w.heap.size, 2, none⟩) := hd 1 (by kernel_rfl)
  simp only [fillL, Act.put, List.setIfInBounds_toArray, List.set_cons_zero, List.set_cons_succ, h1]
  exact runLdU64 (.tmp 14) rfl ⟨w.heap.size, 2, none⟩ rfl _ (by rw [hS.cell (p := ⟨w.heap.size, 2, none⟩) hz0]; exact c2)
 ·
  refine relCall 3 rfl rfl 40 fun u wq hS hd => ?_
  have h0 : u 0 = .agg #[.int .i64 0, .int .u64 (2 : Nat), .string (B []), .slice none 0 0, .bool false] := hd 0 (by kernel_rfl)
  have h2 : u 2 = .int .u64 (n : Nat) := hd 2 (by kernel_rfl)
  simp only [fillL, Act.put, List.setIfInBounds_toArray, List.set_cons_zero, List.set_cons_succ, h0, h2]
  refine ⟨#[.int .u64 (n : Nat)], by kernel_rfl, ?_⟩
  refine (Num_any n wq).mono ?_
  rintro e w' ⟨rfl, hb⟩
  exact ⟨_, rfl, hS.trans (hb.mono hS.size), hb, rfl⟩
 ·
  refine relQuiet 4 rfl rfl hEr (.pointer (some ⟨w.heap.size, 3, none⟩)) (fun _ => rfl) fun u wq hS hd => ?_
  simp only [fillL, Act.put, List.setIfInBounds_toArray, List.set_cons_zero, List.set_cons_succ]
  first | kernel_rfl | (show _ = _; kernel_rfl) | rfl
 ·
  refine relQuiet 5 rfl rfl hEr (.int .u64 (v : Nat)) (fun _ => rfl) fun u wq hS hd => ?_
  have h4 : u 4 = .pointer (some ⟨w.heap.size, 3, none⟩) := hd 4 (by kernel_rfl)
  simp only [fillL, Act.put, List.setIfInBounds_toArray, List.set_cons_zero, List.set_cons_succ, h4]
  exact runLdU64 (.tmp 17) rfl ⟨w.heap.size, 3, none⟩ rfl _ (by rw [hS.cell (p := ⟨w.heap.size, 3, none⟩) hz0]; exact c3)
 ·
  refine relCall 6 rfl rfl 40 fun u wq hS hd => ?_
  have h3 : u 3 = .agg #[.int .i64 0, .int .u64 (n : Nat), .string (B []), .slice none 0 0, .bool false] := hd 3 (by kernel_rfl)
  have h5 : u 5 = .int .u64 (v : Nat) := hd 5 (by kernel_rfl)
  simp only [fillL, Act.put, List.setIfInBounds_toArray, List.set_cons_zero, List.set_cons_succ, h3, h5]
  refine ⟨#[.int .u64 (v : Nat)], by kernel_rfl, ?_⟩
  refine (Num_any v wq).mono ?_
  rintro e w' ⟨rfl, hb⟩
  exact ⟨_, rfl, hS.trans (hb.mono hS.size), hb, rfl⟩
 ·
  refine relRun 7 rfl rfl fun u wq hS hd => ?_
  have h3 : u 3 = .agg #[.int .i64 0, .int .u64 (n : Nat), .string (B []), .slice none 0 0, .bool false] := hd 3 (by kernel_rfl)
  have h6 : u 6 = .agg #[.int .i64 0, .int .u64 (v : Nat), .string (B []), .slice none 0 0, .bool false] := hd 6 (by kernel_rfl)
  simp only [fillL, Act.put, List.setIfInBounds_toArray, List.set_cons_zero, List.set_cons_succ, h3, h6]
  refine ⟨_, _, runBldI2 (.tmp 16) (.tmp 19) rfl rfl rfl, hS.alloc hS.size _, (Below.refl _ _).alloc (Nat.le_refl _) _, _, rfl, ?_⟩
  rw [blank_alloc _ hS.size]
  exact tat_two (tat_num _ n HN.out) (tat_num _ v HV.out) (by rw [← blank_size w1.heap.size wq]; exact lt_of_last) (rangeAt_row (by rw [← blank_size w1.heap.size wq]; exact heap_alloc_last _ _)) rfl
 ·
  refine relCall 8 rfl rfl 178 fun u wq hS hd => ?_
  have h6 : u 6 = .agg #[.int .i64 0, .int .u64 (v : Nat), .string (B []), .slice none 0 0, .bool false] := hd 6 (by kernel_rfl)
  have h7 : (fun zv W => ∃ g, zv = .slice (some ⟨g, 0, none⟩) 2 2 ∧ TAt (blank w1.heap.size W) (arrT [numT n, numT v]) [.int .i64 4, .int .u64 (0 : Nat), .string (B []), .slice (some ⟨g, 0, none⟩) 2 2, .bool false]) (u 7) wq := hd 7 (by kernel_rfl)
  obtain ⟨g7, e7, t7⟩ := h7
  simp only [fillL, Act.put, List.setIfInBounds_toArray, List.set_cons_zero, List.set_cons_succ, h6, e7]
  refine ⟨#[.slice (some ⟨g7, 0, none⟩) 2 2], by kernel_rfl, ?_⟩
  refine (List_any _ 2 2 wq).mono ?_
  rintro e w' ⟨rfl, hb⟩
  exact ⟨_, rfl, hS.trans (hb.mono hS.size), hb, _, rfl, t7.keep (blank_below hb) (by rw [blank_size]; exact Nat.le_refl _)⟩
 ·
  refine relRun 9 rfl rfl fun u wq hS hd => ?_
  have h0 : u 0 = .agg #[.int .i64 0, .int .u64 (2 : Nat), .string (B []), .slice none 0 0, .bool false] := hd 0 (by kernel_rfl)
  have h8 : (fun zv W => ∃ g, zv = .agg #[.int .i64 4, .int .u64 (0 : Nat), .string (B []), .slice (some ⟨g, 0, none⟩) 2 2, .bool false] ∧ TAt (blank w1.heap.size W) (arrT [numT n, numT v]) [.int .i64 4, .int .u64 (0 : Nat), .string (B []), .slice (some ⟨g, 0, none⟩) 2 2, .bool false]) (u 8) wq := hd 8 (by kernel_rfl)
  obtain ⟨g8, e8, t8⟩ := h8
  simp only [fillL, Act.put, List.setIfInBounds_toArray, List.set_cons_zero, List.set_cons_succ, h0, e8]
  refine ⟨_, _, runBldI2 (.tmp 13) (.tmp 21) rfl rfl rfl, hS.alloc hS.size _, (Below.refl _ _).alloc (Nat.le_refl _) _, _, rfl, ?_⟩
  rw [blank_alloc _ hS.size]
  exact tat_two (tat_num _ 2 (by decide)) (t8.keep ((Below.refl _ _).alloc (Nat.le_refl _) _) (Nat.le_refl _)) (by rw [← blank_size w1.heap.size wq]; exact lt_of_last) (rangeAt_row (by rw [← blank_size w1.heap.size wq]; exact heap_alloc_last _ _)) rfl
 ·
  refine relCall 10 rfl rfl 178 fun u wq hS hd => ?_
  have h8 : (fun zv W => ∃ g, zv = .agg #[.int .i64 4, .int .u64 (0 : Nat), .string (B []), .slice (some ⟨g, 0, none⟩) 2 2, .bool false] ∧ TAt (blank w1.heap.size W) (arrT [numT n, numT v]) [.int .i64 4, .int .u64 (0 : Nat), .string (B []), .slice (some ⟨g, 0, none⟩) 2 2, .bool false]) (u 8) wq := hd 8 (by kernel_rfl)
  obtain ⟨g8, e8, t8⟩ := h8
  have h9 : (fun zv W => ∃ g, zv = .slice (some ⟨g, 0, none⟩) 2 2 ∧ TAt (blank w1.heap.size W) (arrT [numT 2, arrT [numT n, numT v]]) [.int .i64 4, .int .u64 (0 : Nat), .string (B []), .slice (some ⟨g, 0, none⟩) 2 2, .bool false]) (u 9) wq := hd 9 (by kernel_rfl)
  obtain ⟨g9, e9, t9⟩ := h9
  simp only [fillL, Act.put, List.setIfInBounds_toArray, List.set_cons_zero, List.set_cons_succ, e8, e9]
  refine ⟨#[.slice (some ⟨g9, 0, none⟩) 2 2], by kernel_rfl, ?_⟩
  refine (List_any _ 2 2 wq).mono ?_
  rintro e w' ⟨rfl, hb⟩
  exact ⟨_, rfl, hS.trans (hb.mono hS.size), hb, _, rfl, t9.keep (blank_below hb) (by rw [blank_size]; exact Nat.le_refl _)⟩
 intro u w2 hS hv
 have h0 : u 0 = .agg #[.int .i64 0, .int .u64 (2 : Nat), .string (B []), .slice none 0 0, .bool false] := hv 0 (by decide)
 have h1 : u 1 = .pointer (some ⟨w.heap.size, 2, none⟩) := hv 1 (by decide)
 have h2 : u 2 = .int .u64 (n : Nat) := hv 2 (by decide)
 have h3 : u 3 = .agg #[.int .i64 0, .int .u64 (n : Nat), .string (B []), .slice none 0 0, .bool false] := hv 3 (by decide)
 have h4 : u 4 = .pointer (some ⟨w.heap.size, 3, none⟩) := hv 4 (by decide)
 have h5 : u 5 = .int .u64 (v : Nat) := hv 5 (by decide)
 have h6 : u 6 = .agg #[.int .i64 0, .int .u64 (v : Nat), .string (B []), .slice none 0 0, .bool false] := hv 6 (by decide)
 have h7 : (fun zv W => ∃ g, zv = .slice (some ⟨g, 0, none⟩) 2 2 ∧ TAt (blank w1.heap.size W) (arrT [numT n, numT v]) [.int .i64 4, .int .u64 (0 : Nat), .string (B []), .slice (some ⟨g, 0, none⟩) 2 2, .bool false]) (u 7) w2 := hv 7 (by decide)
 obtain ⟨g7, e7, t7⟩ := h7
 have h8 : (fun zv W => ∃ g, zv = .agg #[.int .i64 4, .int .u64 (0 : Nat), .string (B []), .slice (some ⟨g, 0, none⟩) 2 2, .bool false] ∧ TAt (blank w1.heap.size W) (arrT [numT n, numT v]) [.int .i64 4, .int .u64 (0 : Nat), .string (B []), .slice (some ⟨g, 0, none⟩) 2 2, .bool false]) (u 8) w2 := hv 8 (by decide)
 obtain ⟨g8, e8, t8⟩ := h8
 have h9 : (fun zv W => ∃ g, zv = .slice (some ⟨g, 0, none⟩) 2 2 ∧ TAt (blank w1.heap.size W) (arrT [numT 2, arrT [numT n, numT v]]) [.int .i64 4, .int .u64 (0 : Nat), .string (B []), .slice (some ⟨g, 0, none⟩) 2 2, .bool false]) (u 9) w2 := hv 9 (by decide)
 obtain ⟨g9, e9, t9⟩ := h9
 have h10 : (fun zv W => ∃ g, zv = .agg #[.int .i64 4, .int .u64 (0 : Nat), .string (B []), .slice (some ⟨g, 0, none⟩) 2 2, .bool false] ∧ TAt (blank w1.heap.size W) (arrT [numT 2, arrT [numT n, numT v]]) [.int .i64 4, .int .u64 (0 : Nat), .string (B []), .slice (some ⟨g, 0, none⟩) 2 2, .bool false]) (u 10) w2 := hv 10 (by decide)
 obtain ⟨g10, e10, t10⟩ := h10
 simp only [fillL, Act.put, List.setIfInBounds_toArray, List.set_cons_zero, List.set_cons_succ, h0, h1, h2, h3, h4, h5, h6, e7, e8, e9, e10]
 clear hEr hv h0 h1 h2 h3 h4 h5 h6 e7 e8 e9 e10
 clear u
 refine wpAny_of_held (S := fun _ => True) _ _ _ _ ?_
 refine oneH 11 rfl rfl (by kernel_rfl) fun K hK => ?_
 refine wpH_store rfl 89 (.tmp 2) (.tmp 23) rfl (w.heap.size + 1) (#[.int .i64 4, .int .u64 (0 : Nat), .string (B []), .slice (some ⟨g10, 0, none⟩) 2 2, .bool false]) (#[.int .i64 0, .int .u64 0, .string ⟨#[]⟩, .slice none 0 0, .bool false]) 89 rfl rfl (heap_below hS hz1 c9) infoI rfl (by simp [Value.oneCell']) ?_
 refine hK _ _ trivial fun _ => ?_
 clear hK K
 refine oneH 12 rfl rfl (by kernel_rfl) fun K hK => ?_
 refine wpH_same (some 3) rfl (.int .i64 0) (by kernel_rfl) ?_
 simp only [Act.put, List.setIfInBounds_toArray, List.set_cons_zero, List.set_cons_succ]
 refine hK _ _ trivial fun _ => ?_
 clear hK K
 refine wpAnyH_done (by kernel_rfl) ?_ _
 go_wp2
 refine post_row_tmp (w.heap.size + 1) Tryz.results177 89 #[.int .i64 4, .int .u64 (0 : Nat), .string (B []), .slice (some ⟨g10, 0, none⟩) 2 2, .bool false] _ (.int .i64 0) rfl rfl (setRow_heap _ _ _ _ _ _ (heap_below hS hz1 c9)) Tryz.underlying89 rfl infoI rfl ⟨_, rfl, ?_, setRow_below _ (by omega) (HB.out.trans (hS.mono (by omega)))⟩
 rw [HT.out]
 exact TAt.unblank (n := w1.heap.size) (by rw [blank_setRow _ _ hz1]; exact t10)
set_option maxHeartbeats 1600000 in
set_option maxRecDepth 100000 in
theorem Item_none (w : World) : Calls Tryz.prog 177 #[.agg #[.int .i64 1, .string (B [110, 111, 110, 101]), .int .u64 0, .int .u64 0]] w (TwoI 1 [110, 111, 110, 101] 0 0 w) := by
 have H : Hid (rightB 1 [110, 111, 110, 101] 0 0 = true) := Lib.hid (by decide)
 have HT : Hid (nameT 1 [110, 111, 110, 101] 0 0 = arrT [numT 1, numT 0]) := Lib.hid rfl
 go_enter Tryz.func177, Tryz.ntmps177
 go_wp2_with fail
 obtain ⟨w0, hw0⟩ : ∃ w0, (w.alloc (.cells #[.int .i64 1, .string (B [110, 111, 110, 101]), .int .u64 0, .int .u64 0] 24)).alloc (.cells #[.int .i64 0, .int .u64 0, .string ⟨#[]⟩, .slice none 0 0, .bool false] 89) = w0 := ⟨_, rfl⟩
 have gS : w0.heap.size = w.heap.size + 1 + 1 := by rw [← hw0]; show ((w.heap.push _).push _).size = _; simp
 have gb : Below w.heap.size w w0 := by rw [← hw0]; exact ((Below.refl _ _).alloc (Nat.le_refl _) _).alloc (by show w.heap.size ≤ (w.heap.push _).size; simp) _
 have g0 : w0.heap[w.heap.size]? = some (.cells #[.int .i64 1, .string (B [110, 111, 110, 101]), .int .u64 0, .int .u64 0] 24 (0, 0)) := by rw [← hw0]; exact heap_under (heap_alloc_last w _)
 have g9 : w0.heap[w.heap.size + 1]? = some (.cells #[.int .i64 0, .int .u64 0, .string ⟨#[]⟩, .slice none 0 0, .bool false] 89 (0, 0)) := by rw [← hw0]; exact heap_at (by show (w.heap.push _).size = _; simp)
 rw [hw0]
 clear hw0
 refine (Right_any _ _ _ _ _ (by first | exact hl | decide)).mono ?_
 rw [H.out]
 rintro e w1 ⟨rfl, hb⟩
 have hz0 : w.heap.size < w1.heap.size := by have := hb.size; omega
 have hz1 : w.heap.size + 1 < w1.heap.size := by have := hb.size; omega
 have c9 := heap_below hb (by omega) g9
 have q0 := heap_below hb (by omega) g0
 have c0 : w1.cell? ⟨w.heap.size, 0, none⟩ = some (.int .i64 1) := by rw [cell_of_row _ _ _ _ _ _ q0]; rfl
 have c1 : w1.cell? ⟨w.heap.size, 1, none⟩ = some (.string (B [110, 111, 110, 101])) := by rw [cell_of_row _ _ _ _ _ _ q0]; rfl
 have HB := Lib.hid (gb.trans (hb.mono (by omega)))
 clear hb gS gb g0 g9 q0
 go_wp2_with fail
 refine (Num_any 1 _).mono ?_
 rintro e wa ⟨rfl, ha⟩
 go_wp2_with fail
 refine (Num_any 0 _).mono ?_
 rintro e wb ⟨rfl, hb⟩
 have hab := ha.trans (hb.mono ha.size)
 have hsb := hab.size
 go_wp2_with fail
 refine (List_any (some ⟨wb.heap.size, 0, none⟩) 2 2 _).mono ?_
 rintro e wc ⟨rfl, hc⟩
 have hq1 : Below w1.heap.size w1 (wb.alloc (.cells #[.int .i64 0, .int .u64 1, .string (B []), .slice none 0 0, .bool false, .int .i64 0, .int .u64 0, .string (B []), .slice none 0 0, .bool false] 89)) := hab.alloc hsb _
 have hS := hq1.trans (hc.mono hq1.size)
 have tq : TAt (blank w1.heap.size (wb.alloc (.cells #[.int .i64 0, .int .u64 1, .string (B []), .slice none 0 0, .bool false, .int .i64 0, .int .u64 0, .string (B []), .slice none 0 0, .bool false] 89))) (arrT [numT 1, numT 0]) [.int .i64 4, .int .u64 (0 : Nat), .string (B []), .slice (some ⟨wb.heap.size, 0, none⟩) 2 2, .bool false] := by
  rw [blank_alloc _ hsb]
  exact tat_two (tat_num _ 1 (by decide)) (tat_num _ 0 (by decide)) (by rw [← blank_size w1.heap.size wb]; exact lt_of_last) (rangeAt_row (by rw [← blank_size w1.heap.size wb]; exact heap_alloc_last _ _)) rfl
 have t5 : TAt (blank w1.heap.size wc) (arrT [numT 1, numT 0]) [.int .i64 4, .int .u64 (0 : Nat), .string (B []), .slice (some ⟨wb.heap.size, 0, none⟩) 2 2, .bool false] := tq.keep (blank_below hc) (by rw [blank_size]; exact Nat.le_refl _)
 go_wp2_with (with_reducible refine stop_store 89 rfl ?_)
 refine store_row 89 (.tmp 2) (.tmp 31) rfl rfl rfl (w.heap.size + 1) #[.int .i64 4, .int .u64 (0 : Nat), .string (B []), .slice (some ⟨wb.heap.size, 0, none⟩) 2 2, .bool false] rfl rfl 89 _ (heap_below hS hz1 c9) infoI rfl (by simp [Value.oneCell']) ?_
 go_wp2
 refine post_row_tmp (w.heap.size + 1) Tryz.results177 89 #[.int .i64 4, .int .u64 (0 : Nat), .string (B []), .slice (some ⟨wb.heap.size, 0, none⟩) 2 2, .bool false] _ (.int .i64 0) rfl rfl (setRow_heap _ _ _ _ _ _ (heap_below hS hz1 c9)) Tryz.underlying89 rfl infoI rfl ⟨_, rfl, ?_, setRow_below _ (by omega) (HB.out.trans (hS.mono (by omega)))⟩
 rw [HT.out]
 exact TAt.unblank (n := w1.heap.size) (by rw [blank_setRow _ _ hz1]; exact t5)
theorem Item_any (s : Nat) (l : List UInt8) (n v : Nat) (w : World) (hl : l.length ≤ maxLen) (hl2 : l.length ≤ R47) (hn : n < W64) (hv : v < W64) (h : rightB s l n v = true) : Calls Tryz.prog 177 #[.agg #[.int .i64 s, .string (B l), .int .u64 n, .int .u64 v]] w (TwoI s l n v w) := by
 have h' := h
 unfold rightB at h'
 by_cases h1 : (s : Int) = 1
 ·
  obtain rfl : s = 1 := by omega
  rw [if_pos h1, Bool.and_eq_true, decide_eq_true_eq] at h'
  obtain ⟨⟨hn0, hv0⟩, _⟩ := h'
  obtain rfl : n = 0 := by omega
  obtain rfl : v = 0 := by omega
  by_cases hne : l = [110, 111, 110, 101]
  · subst hne; exact Item_none w
  · exact Item_text l w hl hl2 (by simpa using hne) h
 ·
  rw [if_neg h1] at h'
  by_cases h2 : (s : Int) = 2
  ·
   obtain rfl : s = 2 := by omega
   rw [if_pos h2, decide_eq_true_eq] at h'
   obtain ⟨rfl, _, _⟩ := h'
   exact Item_ipn n v w hn hv h
  ·
   rw [if_neg h2] at h'
   cases h'
structure Nm where
 s : Nat
 l : List UInt8
 n : Nat
 v : Nat
def Nm.zero : Nm := ⟨0, [], 0, 0⟩
def Nm.none : Nm := ⟨1, [110, 111, 110, 101], 0, 0⟩
def nmV (m : Nm) : Value := .agg #[.int .i64 m.s, .string (B m.l), .int .u64 m.n, .int .u64 m.v]
def textOf (x y : Tr) : Nm := if x.n = 1 ∧ y.k = 3 then ⟨1, y.s, 0, 0⟩ else Nm.none
def readY (x y : Tr) : Nm := match y.l with
 | [p, q] => if x.n = 2 then ⟨2, [], p.n, q.n⟩ else textOf x y
 | _ => textOf x y
def readT (t : Tr) : Nm := if t.k = 4 then (match t.l with
 | [x, y] => if x.k = 0 then readY x y else Nm.zero
 | _ => Nm.zero) else Nm.zero
theorem readY_two {x y p q : Tr} (h : y.l = [p, q]) (hx : x.n = 2) : readY x y = ⟨2, [], p.n, q.n⟩ := by unfold readY; rw [h]; simp [hx]
theorem readY_rest {x y : Tr} (h : ¬ (x.n = 2 ∧ y.l.length = 2)) : readY x y = textOf x y := by
 unfold readY
 split
 · next p q hl => rw [if_neg]; intro hx; exact h ⟨hx, by rw [hl]; rfl⟩
 · rfl
theorem readT_len {t : Tr} (h : ¬ t.l.length = 2) : readT t = Nm.zero := by
 unfold readT
 split
 ·
  split
  · next x y hl => exact absurd (by rw [hl]; rfl) h
  · rfl
 · rfl
theorem infoE : (Tryz.prog.info? 24).map (·.size) = some 4 := by kernel_rfl
theorem range5 {w : World} {b o : Nat} {c0 c1 c2 c3 c4 : Value} (h : w.rangeAt b o [c0, c1, c2, c3, c4]) : w.cell? ⟨b, o, Option.none⟩ = some c0 ∧ w.cell? ⟨b, o + 1, Option.none⟩ = some c1 ∧ w.cell? ⟨b, o + 2, Option.none⟩ = some c2 ∧ w.cell? ⟨b, o + 3, Option.none⟩ = some c3 ∧ w.cell? ⟨b, o + 4, Option.none⟩ = some c4 :=
 ⟨h 0 c0 rfl, h 1 c1 rfl, h 2 c2 rfl, h 3 c3 rfl, h 4 c4 rfl⟩
set_option maxHeartbeats 1600000 in
set_option maxRecDepth 100000 in
theorem read_len (t : Tr) (cs : List Value) (w : World) (h : TAt w t cs) (hl : ¬ (t.k = 4 ∧ t.l.length = 2)) : Calls Tryz.prog 218 #[.agg cs.toArray] w fun e w' => e = .returned (nmV Nm.zero) ∧ Below w.heap.size w w' := by
 obtain ⟨a, c, C, rfl, _, _, hll, _⟩ := box_item h
 obtain ⟨n, hn⟩ : ∃ n, t.l.length = n := ⟨_, rfl⟩
 rw [hn] at hll hl
 rw [hn]
 clear hn h
 generalize t.k = tk at *
 generalize t.n = tn at *
 generalize t.s = ts at *
 generalize t.o = tob at *
 have H := Lib.hid hl
 clear hl hll
 go_enter Tryz.func218, Tryz.ntmps218
 by_cases hk : tk = 4
 ·
  subst hk
  have hn2 : ¬ (n : Int) = 2 := fun h => H.out ⟨rfl, by omega⟩
  go_wp2
  exact bodyPost_ret (v := .agg #[.int .i64 0, .string ⟨#[]⟩, .int .u64 0, .int .u64 0]) (by simp [results, Tryz.results218, go_sem]) rfl ⟨rfl, by ((repeat' (with_reducible first | exact Below.refl _ _ | assumption | refine Below.drew ?_ | refine below_drewN ?_ _ | refine Below.setCell ?_ ?_ _ | refine Below.alloc ?_ ?_ _ | refine Below.ext ?_ ?_ _ | refine Below.trans ?_ (Below.mono ‹_› ?_))) <;> first | omega | (simp; done) | (simp; omega))⟩
 ·
  go_wp2
  exact bodyPost_ret (v := .agg #[.int .i64 0, .string ⟨#[]⟩, .int .u64 0, .int .u64 0]) (by simp [results, Tryz.results218, go_sem]) rfl ⟨rfl, by ((repeat' (with_reducible first | exact Below.refl _ _ | assumption | refine Below.drew ?_ | refine below_drewN ?_ _ | refine Below.setCell ?_ ?_ _ | refine Below.alloc ?_ ?_ _ | refine Below.ext ?_ ?_ _ | refine Below.trans ?_ (Below.mono ‹_› ?_))) <;> first | omega | (simp; done) | (simp; omega))⟩
set_option maxHeartbeats 1600000 in
set_option maxRecDepth 100000 in
theorem read_kind (x y : Tr) (tn : Nat) (ts : List UInt8) (o : Bool) (cs : List Value) (w : World) (h : TAt w (.mk 4 tn ts [x, y] o) cs) (hx : ¬ x.k = 0) : Calls Tryz.prog 218 #[.agg cs.toArray] w fun e w' => e = .returned (nmV Nm.zero) ∧ Below w.heap.size w w' := by
 obtain ⟨a, c, C, rfl, _, _, _, hel⟩ := box_item h
 obtain ⟨b, f, rfl, hbl, hr, h0, _⟩ := hel 0 x rfl
 obtain ⟨a0, d0, C0, hC0, _⟩ := box_item h0
 rw [hC0] at hr
 have hc0 := (range5 hr).1
 simp only [Nat.zero_mul, Nat.add_zero] at hc0
 simp only [Tr.k, Tr.n, Tr.s, Tr.l, Tr.o, List.length_cons, List.length_nil]
 clear hr h0 hel h hC0
 generalize x.k = k0 at *
 go_enter Tryz.func218, Tryz.ntmps218
 go_wp2
 exact bodyPost_ret (v := .agg #[.int .i64 0, .string ⟨#[]⟩, .int .u64 0, .int .u64 0]) (by simp [results, Tryz.results218, go_sem]) rfl ⟨rfl, by ((repeat' (with_reducible first | exact Below.refl _ _ | assumption | refine Below.drew ?_ | refine below_drewN ?_ _ | refine Below.setCell ?_ ?_ _ | refine Below.alloc ?_ ?_ _ | refine Below.ext ?_ ?_ _ | refine Below.trans ?_ (Below.mono ‹_› ?_))) <;> first | omega | (simp; done) | (simp; omega))⟩
set_option maxHeartbeats 1600000 in
set_option maxRecDepth 100000 in
theorem read_rest (x y : Tr) (tn : Nat) (ts : List UInt8) (o : Bool) (cs : List Value) (w : World) (h : TAt w (.mk 4 tn ts [x, y] o) cs) (hx : x.k = 0) (hxy : ¬ (x.n = 2 ∧ y.l.length = 2)) : Calls Tryz.prog 218 #[.agg cs.toArray] w fun e w' => e = .returned (nmV (textOf x y)) ∧ Below w.heap.size w w' := by
 obtain ⟨a, c, C, rfl, _, _, _, hel⟩ := box_item h
 obtain ⟨b, f, rfl, hbl, hr, h0, _⟩ := hel 0 x rfl
 obtain ⟨_, _, hq, _, hr1, h1, _⟩ := hel 1 y rfl
 injection hq with hq; injection hq with hq1 hq2 _
 subst hq1 hq2
 obtain ⟨a0, d0, C0, hC0, _⟩ := box_item h0
 obtain ⟨a1, d1, C1, hC1, _⟩ := box_item h1
 rw [hC0] at hr
 rw [hC1] at hr1
 obtain ⟨hc0, hc1, _, _, _⟩ := range5 hr
 obtain ⟨hd0, hd1, hd2, hd3, hd4⟩ := range5 hr1
 simp only [Nat.zero_mul, Nat.add_zero, Nat.one_mul] at hc0 hc1 hd0 hd1 hd2 hd3 hd4
 simp only [Tr.k, Tr.n, Tr.s, Tr.l, Tr.o, List.length_cons, List.length_nil]
 have HR : Hid (textOf x y = if x.n = 1 ∧ y.k = 3 then ⟨1, y.s, 0, 0⟩ else Nm.none) := Lib.hid rfl
 generalize textOf x y = R at *
 rw [hx] at hc0
 obtain ⟨n, hn⟩ : ∃ n, y.l.length = n := ⟨_, rfl⟩
 rw [hn] at hd3 hxy
 have HXY := Lib.hid hxy
 clear hr h0 hel h hC0 hC1 hr1 h1 hn hxy
 generalize x.n = n0 at *
 generalize y.k = k1 at *
 generalize y.n = n1 at *
 generalize y.s = s1 at *
 generalize y.o = o1 at *
 have HC0 := Lib.hid hc0
 have HC1 := Lib.hid hc1
 obtain ⟨w3, hw3⟩ : ∃ w3, ((w.alloc (.cells #[.int .i64 4, .int .u64 tn, .string (B ts), .slice (some ⟨b, f, Option.none⟩) 2 c, .bool o] 89)).alloc (.cells #[.int .i64 0, .string ⟨#[]⟩, .int .u64 0, .int .u64 0] 24)).alloc (.cells #[.int .i64 k1, .int .u64 n1, .string (B s1), .slice a1 n d1, .bool o1] 89) = w3 := ⟨_, rfl⟩
 have gS : w3.heap.size = w.heap.size + 1 + 1 + 1 := by rw [← hw3]; show (((w.heap.push _).push _).push _).size = _; simp
 have gb : Below w.heap.size w w3 := by rw [← hw3]; exact (((Below.refl _ _).alloc (Nat.le_refl _) _).alloc (by show w.heap.size ≤ (w.heap.push _).size; simp) _).alloc (by show w.heap.size ≤ ((w.heap.push _).push _).size; simp; omega) _
 have q0 : w3.heap[w.heap.size]? = some (.cells #[.int .i64 4, .int .u64 tn, .string (B ts), .slice (some ⟨b, f, Option.none⟩) 2 c, .bool o] 89 (0, 0)) := by rw [← hw3]; exact heap_under (heap_under (heap_alloc_last w _))
 have q1 : w3.heap[w.heap.size + 1]? = some (.cells #[.int .i64 0, .string ⟨#[]⟩, .int .u64 0, .int .u64 0] 24 (0, 0)) := by rw [← hw3]; exact heap_under (heap_at (by show (w.heap.push _).size = _; simp))
 have q2 : w3.heap[w.heap.size + 1 + 1]? = some (.cells #[.int .i64 k1, .int .u64 n1, .string (B s1), .slice a1 n d1, .bool o1] 89 (0, 0)) := by rw [← hw3]; exact heap_at (by show ((w.heap.push _).push _).size = _; simp)
 have e1 : w3.cell? ⟨b, f + 1, Option.none⟩ = some (.int .u64 n0) := by rw [gb.cell (p := ⟨b, f + 1, Option.none⟩) hbl]; exact HC1.out
 have e3 : w3.cell? ⟨w.heap.size, 3, Option.none⟩ = some (.slice (some ⟨b, f, Option.none⟩) 2 c) := by rw [cell_of_row _ _ _ _ _ _ q0]; rfl
 have y0 : w3.cell? ⟨w.heap.size + 1 + 1, 0, Option.none⟩ = some (.int .i64 k1) := by rw [cell_of_row _ _ _ _ _ _ q2]; rfl
 have y2 : w3.cell? ⟨w.heap.size + 1 + 1, 2, Option.none⟩ = some (.string (B s1)) := by rw [cell_of_row _ _ _ _ _ _ q2]; rfl
 have y3 : w3.cell? ⟨w.heap.size + 1 + 1, 3, Option.none⟩ = some (.slice a1 n d1) := by rw [cell_of_row _ _ _ _ _ _ q2]; rfl
 have Q1 := Lib.hid q1
 have GB := Lib.hid gb
 clear q0 q1 q2 gb
 have hfin : ∀ (W : World) (t : Act), Below w3.heap.size w3 W → True := fun _ _ _ => trivial
 clear hfin
 go_enter Tryz.func218, Tryz.ntmps218
 go_upto_region 4 with fail
 clear hw3 hc0 hc1 hd0 hd1 hd2 hd3 hd4
 by_cases h2 : n0 = 2
 ·
  subst h2
  have hn2 : ¬ (n : Int) = 2 := fun h => HXY.out ⟨rfl, by omega⟩
  have HR2 : Hid (R = Nm.none) := Lib.hid (by rw [HR.out]; simp)
  clear HR
  go_wp2_with fail
  refine (None_any _).mono ?_
  rintro e w2 ⟨rfl, hb⟩
  have HB := Lib.hid hb
  clear hb
  go_wp2_with (with_reducible refine stop_store 24 rfl ?_)
  refine store_row 24 (.tmp 2) (.tmp 65) rfl rfl rfl (w.heap.size + 1) #[.int .i64 1, .string (B [110, 111, 110, 101]), .int .u64 0, .int .u64 0] rfl rfl 24 _ (heap_below HB.out (by omega) Q1.out) infoE rfl (by simp [Value.oneCell']) ?_
  go_wp2
  exact post_row (w.heap.size + 1) Tryz.results218 24 #[.int .i64 1, .string (B [110, 111, 110, 101]), .int .u64 0, .int .u64 0] _ rfl (setRow_heap _ _ _ _ _ _ (heap_below HB.out (by omega) Q1.out)) Tryz.underlying24 rfl infoE rfl ⟨by rw [HR2.out]; rfl, setRow_below _ (by omega) (GB.out.trans (HB.out.mono (by omega)))⟩
 ·
  have h2' : ¬ (n0 : Int) = 2 := by omega
  by_cases h1 : n0 = 1
  ·
   subst h1
   by_cases h3 : k1 = 3
   ·
    subst h3
    have HR2 : Hid (R = ⟨1, s1, 0, 0⟩) := Lib.hid (by rw [HR.out]; simp)
    clear h2 h2' HR
    go_wp2_with (with_reducible refine stop_store 24 rfl ?_)
    refine store_row 24 (.tmp 2) (.tmp 64) rfl rfl rfl (w.heap.size + 1) #[.int .i64 1, .string (B s1), .int .u64 0, .int .u64 0] rfl rfl 24 _ Q1.out infoE rfl (by simp [Value.oneCell']) ?_
    go_wp2
    exact post_row (w.heap.size + 1) Tryz.results218 24 #[.int .i64 1, .string (B s1), .int .u64 0, .int .u64 0] _ rfl (setRow_heap _ _ _ _ _ _ Q1.out) Tryz.underlying24 rfl infoE rfl ⟨by rw [HR2.out]; rfl, setRow_below _ (by omega) GB.out⟩
   ·
    have HR2 : Hid (R = Nm.none) := Lib.hid (by rw [HR.out]; simp [h3])
    clear h2 h2' HR
    go_wp2_with fail
    refine (None_any _).mono ?_
    rintro e w2 ⟨rfl, hb⟩
    have HB := Lib.hid hb
    clear hb
    go_wp2_with (with_reducible refine stop_store 24 rfl ?_)
    refine store_row 24 (.tmp 2) (.tmp 65) rfl rfl rfl (w.heap.size + 1) #[.int .i64 1, .string (B [110, 111, 110, 101]), .int .u64 0, .int .u64 0] rfl rfl 24 _ (heap_below HB.out (by omega) Q1.out) infoE rfl (by simp [Value.oneCell']) ?_
    go_wp2
    exact post_row (w.heap.size + 1) Tryz.results218 24 #[.int .i64 1, .string (B [110, 111, 110, 101]), .int .u64 0, .int .u64 0] _ rfl (setRow_heap _ _ _ _ _ _ (heap_below HB.out (by omega) Q1.out)) Tryz.underlying24 rfl infoE rfl ⟨by rw [HR2.out]; rfl, setRow_below _ (by omega) (GB.out.trans (HB.out.mono (by omega)))⟩
  ·
   have h1' : ¬ (n0 : Int) = 1 := by omega
   have HR2 : Hid (R = Nm.none) := Lib.hid (by rw [HR.out]; simp [h1])
   clear h1 h2 HR
   go_wp2_with fail
   refine (None_any _).mono ?_
   rintro e w2 ⟨rfl, hb⟩
   have HB := Lib.hid hb
   clear hb
   go_wp2_with (with_reducible refine stop_store 24 rfl ?_)
   refine store_row 24 (.tmp 2) (.tmp 65) rfl rfl rfl (w.heap.size + 1) #[.int .i64 1, .string (B [110, 111, 110, 101]), .int .u64 0, .int .u64 0] rfl rfl 24 _ (heap_below HB.out (by omega) Q1.out) infoE rfl (by simp [Value.oneCell']) ?_
   go_wp2
   exact post_row (w.heap.size + 1) Tryz.results218 24 #[.int .i64 1, .string (B [110, 111, 110, 101]), .int .u64 0, .int .u64 0] _ rfl (setRow_heap _ _ _ _ _ _ (heap_below HB.out (by omega) Q1.out)) Tryz.underlying24 rfl infoE rfl ⟨by rw [HR2.out]; rfl, setRow_below _ (by omega) (GB.out.trans (HB.out.mono (by omega)))⟩
set_option maxHeartbeats 1600000 in
set_option maxRecDepth 100000 in
theorem read_two (x y p q : Tr) (tn : Nat) (ts : List UInt8) (o : Bool) (cs : List Value) (w : World) (h : TAt w (.mk 4 tn ts [x, y] o) cs) (hx : x.k = 0) (hx2 : x.n = 2) (hy : y.l = [p, q]) : Calls Tryz.prog 218 #[.agg cs.toArray] w fun e w' => e = .returned (nmV ⟨2, [], p.n, q.n⟩) ∧ Below w.heap.size w w' := by
 obtain ⟨a, c, C, rfl, _, _, _, hel⟩ := box_item h
 obtain ⟨b, f, rfl, hbl, hr, h0, _⟩ := hel 0 x rfl
 obtain ⟨_, _, hq, _, hr1, h1, _⟩ := hel 1 y rfl
 injection hq with hq; injection hq with hq1 hq2 _
 subst hq1 hq2
 obtain ⟨a0, d0, C0, hC0, _⟩ := box_item h0
 obtain ⟨a1, d1, C1, hC1, _, _, _, hel1⟩ := box_item h1
 rw [hy] at hel1 hC1
 obtain ⟨b1, f1, rfl, hbl1, hr2, h2, _⟩ := hel1 0 p rfl
 obtain ⟨_, _, hq, _, hr3, h3, _⟩ := hel1 1 q rfl
 injection hq with hq; injection hq with hq1 hq2 _
 subst hq1 hq2
 obtain ⟨a2, d2, C2, hC2, _⟩ := box_item h2
 obtain ⟨a3, d3, C3, hC3, _⟩ := box_item h3
 rw [hC2] at hr2
 rw [hC3] at hr3
 obtain ⟨_, hp1, _, _, _⟩ := range5 hr2
 obtain ⟨_, hp2, _, _, _⟩ := range5 hr3
 rw [hC0] at hr
 rw [hC1] at hr1
 obtain ⟨hc0, hc1, _, _, _⟩ := range5 hr
 obtain ⟨hd0, hd1, hd2, hd3, hd4⟩ := range5 hr1
 simp only [Nat.zero_mul, Nat.add_zero, Nat.one_mul, List.length_cons, List.length_nil, Nat.zero_add] at hc0 hc1 hd0 hd1 hd2 hd3 hd4 hp1 hp2
 simp only [Tr.k, Tr.n, Tr.s, Tr.l, Tr.o, List.length_cons, List.length_nil]
 rw [hx] at hc0
 rw [hx2] at hc1
 clear hr h0 hel h hC0 hC1 hr1 h1 hel1 h2 h3 hC2 hC3 hr2 hr3
 generalize y.k = k1 at *
 generalize y.n = n1 at *
 generalize y.s = s1 at *
 generalize y.o = o1 at *
 have HC0 := Lib.hid hc0
 have HC1 := Lib.hid hc1
 obtain ⟨w3, hw3⟩ : ∃ w3, ((w.alloc (.cells #[.int .i64 4, .int .u64 tn, .string (B ts), .slice (some ⟨b, f, Option.none⟩) 2 c, .bool o] 89)).alloc (.cells #[.int .i64 0, .string ⟨#[]⟩, .int .u64 0, .int .u64 0] 24)).alloc (.cells #[.int .i64 k1, .int .u64 n1, .string (B s1), .slice (some ⟨b1, f1, Option.none⟩) 2 d1, .bool o1] 89) = w3 := ⟨_, rfl⟩
 have gS : w3.heap.size = w.heap.size + 1 + 1 + 1 := by rw [← hw3]; show (((w.heap.push _).push _).push _).size = _; simp
 have gb : Below w.heap.size w w3 := by rw [← hw3]; exact (((Below.refl _ _).alloc (Nat.le_refl _) _).alloc (by show w.heap.size ≤ (w.heap.push _).size; simp) _).alloc (by show w.heap.size ≤ ((w.heap.push _).push _).size; simp; omega) _
 have q0 : w3.heap[w.heap.size]? = some (.cells #[.int .i64 4, .int .u64 tn, .string (B ts), .slice (some ⟨b, f, Option.none⟩) 2 c, .bool o] 89 (0, 0)) := by rw [← hw3]; exact heap_under (heap_under (heap_alloc_last w _))
 have q1 : w3.heap[w.heap.size + 1]? = some (.cells #[.int .i64 0, .string ⟨#[]⟩, .int .u64 0, .int .u64 0] 24 (0, 0)) := by rw [← hw3]; exact heap_under (heap_at (by show (w.heap.push _).size = _; simp))
 have q2 : w3.heap[w.heap.size + 1 + 1]? = some (.cells #[.int .i64 k1, .int .u64 n1, .string (B s1), .slice (some ⟨b1, f1, Option.none⟩) 2 d1, .bool o1] 89 (0, 0)) := by rw [← hw3]; exact heap_at (by show ((w.heap.push _).push _).size = _; simp)
 have e1 : w3.cell? ⟨b, f + 1, Option.none⟩ = some (.int .u64 (2 : Nat)) := by rw [gb.cell (p := ⟨b, f + 1, Option.none⟩) hbl]; exact HC1.out
 have e3 : w3.cell? ⟨w.heap.size, 3, Option.none⟩ = some (.slice (some ⟨b, f, Option.none⟩) 2 c) := by rw [cell_of_row _ _ _ _ _ _ q0]; rfl
 have y0 : w3.cell? ⟨w.heap.size + 1 + 1, 0, Option.none⟩ = some (.int .i64 k1) := by rw [cell_of_row _ _ _ _ _ _ q2]; rfl
 have y2 : w3.cell? ⟨w.heap.size + 1 + 1, 2, Option.none⟩ = some (.string (B s1)) := by rw [cell_of_row _ _ _ _ _ _ q2]; rfl
 have y3 : w3.cell? ⟨w.heap.size + 1 + 1, 3, Option.none⟩ = some (.slice (some ⟨b1, f1, Option.none⟩) 2 d1) := by rw [cell_of_row _ _ _ _ _ _ q2]; rfl
 have p1 : w3.cell? ⟨b1, f1 + 1, Option.none⟩ = some (.int .u64 p.n) := by rw [gb.cell (p := ⟨b1, f1 + 1, Option.none⟩) hbl1]; exact hp1
 have p2 : w3.cell? ⟨b1, f1 + 5 + 1, Option.none⟩ = some (.int .u64 q.n) := by rw [gb.cell (p := ⟨b1, f1 + 5 + 1, Option.none⟩) hbl1]; exact hp2
 have hl1 : b1 < w3.heap.size := by omega
 have hlY : w.heap.size + 1 + 1 < w3.heap.size := by omega
 have Q1 := Lib.hid q1
 have GB := Lib.hid gb
 clear q0 q1 q2 gb
 have hfin : ∀ (W : World) (t : Act), Below w3.heap.size w3 W → True := fun _ _ _ => trivial
 clear hfin
 go_enter Tryz.func218, Tryz.ntmps218
 go_upto_region 4 with fail
 clear hw3 hc0 hc1 hd0 hd1 hd2 hd3 hd4 hp1 hp2
 go_wp2_with fail
 have hEr : ∀ W : World, (fun W W' => Below W.heap.size W W') W W := fun W => Below.refl _ _
 refine wp_region_rel 11 1 0 (fun W => Below w3.heap.size w3 W) [39, 40, 41, 42, 43, 44, 45, 46, 47, 48, 49] (relAt [fun zv _ => zv = .pointer (some ⟨w.heap.size + 1 + 1, 3, Option.none⟩), fun zv _ => zv = .slice (some ⟨b1, f1, Option.none⟩) 2 d1, fun zv _ => zv = .pointer (some ⟨b1, f1, Option.none⟩), fun zv _ => zv = .pointer (some ⟨b1, f1 + 1, Option.none⟩), fun zv _ => zv = .int .u64 (p.n : Nat), fun zv _ => zv = .pointer (some ⟨w.heap.size + 1 + 1, 3, Option.none⟩), fun zv _ => zv = .slice (some ⟨b1, f1, Option.none⟩) 2 d1, fun zv _ => zv = .pointer (some ⟨b1, f1 + 5, Option.none⟩), fun zv _ => zv = .pointer (some ⟨b1, f1 + 5 + 1, Option.none⟩), fun zv _ => zv = .int .u64 (q.n : Nat), fun zv _ => zv = .agg #[.int .i64 2, .string (B []), .int .u64 (p.n : Nat), .int .u64 (q.n : Nat)]]) (fun W W' => Below W.heap.size W W') (by kernel_rfl) rfl rfl (by kernel_rfl) (by kernel_rfl) (by kernel_rfl) (by kernel_rfl) (Mono.at ⟨fun _ _ _ _ h => h, fun _ _ _ _ h => h, fun _ _ _ _ h => h, fun _ _ _ _ h => h, fun _ _ _ _ h => h, fun _ _ _ _ h => h, fun _ _ _ _ h => h, fun _ _ _ _ h => h, fun _ _ _ _ h => h, fun _ _ _ _ h => h, fun _ _ _ _ h => h, trivial⟩) ((Below.refl _ _).drew) ⟨?_, ?_, ?_, ?_, ?_, ?_, ?_, ?_, ?_, ?_, ?_, trivial⟩ ?_
 ·
  refine relQuiet 0 rfl rfl hEr (.pointer (some ⟨w.heap.size + 1 + 1, 3, Option.none⟩)) (fun _ => rfl) fun u wq hS hd => ?_
  simp only [fillL, Act.put, List.setIfInBounds_toArray, List.set_cons_zero, List.set_cons_succ]
  first | kernel_rfl | (show _ = _; kernel_rfl) | rfl
 ·
  refine relQuiet 1 rfl rfl hEr (.slice (some ⟨b1, f1, Option.none⟩) 2 d1) (fun _ => rfl) fun u wq hS hd => ?_
  have h0 : u 0 = .pointer (some ⟨w.heap.size + 1 + 1, 3, Option.none⟩) := hd 0 (by kernel_rfl)
  simp only [fillL, Act.put, List.setIfInBounds_toArray, List.set_cons_zero, List.set_cons_succ, h0]
  exact runLdCell (.tmp 39) rfl ⟨w.heap.size + 1 + 1, 3, Option.none⟩ rfl _ (by rw [hS.cell (p := ⟨w.heap.size + 1 + 1, 3, Option.none⟩) hlY]; exact y3)
 ·
  refine relQuiet 2 rfl rfl hEr (.pointer (some ⟨b1, f1, Option.none⟩)) (fun _ => rfl) fun u wq hS hd => ?_
  have h1 : u 1 = .slice (some ⟨b1, f1, Option.none⟩) 2 d1 := hd 1 (by kernel_rfl)
  simp only [fillL, Act.put, List.setIfInBounds_toArray, List.set_cons_zero, List.set_cons_succ, h1]
  first | kernel_rfl | (show _ = _; kernel_rfl) | rfl
 ·
  refine relQuiet 3 rfl rfl hEr (.pointer (some ⟨b1, f1 + 1, Option.none⟩)) (fun _ => rfl) fun u wq hS hd => ?_
  have h2 : u 2 = .pointer (some ⟨b1, f1, Option.none⟩) := hd 2 (by kernel_rfl)
  simp only [fillL, Act.put, List.setIfInBounds_toArray, List.set_cons_zero, List.set_cons_succ, h2]
  first | kernel_rfl | (show _ = _; kernel_rfl) | rfl
 ·
  refine relQuiet 4 rfl rfl hEr (.int .u64 (p.n : Nat)) (fun _ => rfl) fun u wq hS hd => ?_
  have h3 : u 3 = .pointer (some ⟨b1, f1 + 1, Option.none⟩) := hd 3 (by kernel_rfl)
  simp only [fillL, Act.put, List.setIfInBounds_toArray, List.set_cons_zero, List.set_cons_succ, h3]
  exact runLdU64 (.tmp 42) rfl ⟨b1, f1 + 1, Option.none⟩ rfl _ (by rw [hS.cell (p := ⟨b1, f1 + 1, Option.none⟩) hl1]; exact p1)
 ·
  refine relQuiet 5 rfl rfl hEr (.pointer (some ⟨w.heap.size + 1 + 1, 3, Option.none⟩)) (fun _ => rfl) fun u wq hS hd => ?_
  simp only [fillL, Act.put, List.setIfInBounds_toArray, List.set_cons_zero, List.set_cons_succ]
  first | kernel_rfl | (show _ = _; kernel_rfl) | rfl
 ·
  refine relQuiet 6 rfl rfl hEr (.slice (some ⟨b1, f1, Option.none⟩) 2 d1) (fun _ => rfl) fun u wq hS hd => ?_
  have h5 : u 5 = .pointer (some ⟨w.heap.size + 1 + 1, 3, Option.none⟩) := hd 5 (by kernel_rfl)
  simp only [fillL, Act.put, List.setIfInBounds_toArray, List.set_cons_zero, List.set_cons_succ, h5]
  exact runLdCell (.tmp 44) rfl ⟨w.heap.size + 1 + 1, 3, Option.none⟩ rfl _ (by rw [hS.cell (p := ⟨w.heap.size + 1 + 1, 3, Option.none⟩) hlY]; exact y3)
 ·
  refine relQuiet 7 rfl rfl hEr (.pointer (some ⟨b1, f1 + 5, Option.none⟩)) (fun _ => rfl) fun u wq hS hd => ?_
  have h6 : u 6 = .slice (some ⟨b1, f1, Option.none⟩) 2 d1 := hd 6 (by kernel_rfl)
  simp only [fillL, Act.put, List.setIfInBounds_toArray, List.set_cons_zero, List.set_cons_succ, h6]
  first | kernel_rfl | (show _ = _; kernel_rfl) | rfl
 ·
  refine relQuiet 8 rfl rfl hEr (.pointer (some ⟨b1, f1 + 5 + 1, Option.none⟩)) (fun _ => rfl) fun u wq hS hd => ?_
  have h7 : u 7 = .pointer (some ⟨b1, f1 + 5, Option.none⟩) := hd 7 (by kernel_rfl)
  simp only [fillL, Act.put, List.setIfInBounds_toArray, List.set_cons_zero, List.set_cons_succ, h7]
  first | kernel_rfl | (show _ = _; kernel_rfl) | rfl
 ·
  refine relQuiet 9 rfl rfl hEr (.int .u64 (q.n : Nat)) (fun _ => rfl) fun u wq hS hd => ?_
  have h8 : u 8 = .pointer (some ⟨b1, f1 + 5 + 1, Option.none⟩) := hd 8 (by kernel_rfl)
  simp only [fillL, Act.put, List.setIfInBounds_toArray, List.set_cons_zero, List.set_cons_succ, h8]
  exact runLdU64 (.tmp 47) rfl ⟨b1, f1 + 5 + 1, Option.none⟩ rfl _ (by rw [hS.cell (p := ⟨b1, f1 + 5 + 1, Option.none⟩) hl1]; exact p2)
 ·
  refine relQuiet 10 rfl rfl hEr (.agg #[.int .i64 2, .string (B []), .int .u64 (p.n : Nat), .int .u64 (q.n : Nat)]) (fun _ => rfl) fun u wq hS hd => ?_
  have h4 : u 4 = .int .u64 (p.n : Nat) := hd 4 (by kernel_rfl)
  have h9 : u 9 = .int .u64 (q.n : Nat) := hd 9 (by kernel_rfl)
  simp only [fillL, Act.put, List.setIfInBounds_toArray, List.set_cons_zero, List.set_cons_succ, h4, h9]
  first | kernel_rfl | (show _ = _; kernel_rfl) | rfl
 intro u w4 hS hv
 have h0 : u 0 = .pointer (some ⟨w.heap.size + 1 + 1, 3, Option.none⟩) := hv 0 (by decide)
 have h1 : u 1 = .slice (some ⟨b1, f1, Option.none⟩) 2 d1 := hv 1 (by decide)
 have h2 : u 2 = .pointer (some ⟨b1, f1, Option.none⟩) := hv 2 (by decide)
 have h3 : u 3 = .pointer (some ⟨b1, f1 + 1, Option.none⟩) := hv 3 (by decide)
 have h4 : u 4 = .int .u64 (p.n : Nat) := hv 4 (by decide)
 have h5 : u 5 = .pointer (some ⟨w.heap.size + 1 + 1, 3, Option.none⟩) := hv 5 (by decide)
 have h6 : u 6 = .slice (some ⟨b1, f1, Option.none⟩) 2 d1 := hv 6 (by decide)
 have h7 : u 7 = .pointer (some ⟨b1, f1 + 5, Option.none⟩) := hv 7 (by decide)
 have h8 : u 8 = .pointer (some ⟨b1, f1 + 5 + 1, Option.none⟩) := hv 8 (by decide)
 have h9 : u 9 = .int .u64 (q.n : Nat) := hv 9 (by decide)
 have h10 : u 10 = .agg #[.int .i64 2, .string (B []), .int .u64 (p.n : Nat), .int .u64 (q.n : Nat)] := hv 10 (by decide)
 simp only [fillL, Act.put, List.setIfInBounds_toArray, List.set_cons_zero, List.set_cons_succ, h0, h1, h2, h3, h4, h5, h6, h7, h8, h9, h10]
 clear hEr hv h0 h1 h2 h3 h4 h5 h6 h7 h8 h9 h10
 clear u
 refine wpAny_of_held (S := fun _ => True) _ _ _ _ ?_
 refine oneH 11 rfl rfl (by kernel_rfl) fun K hK => ?_
 refine wpH_store rfl 24 (.tmp 2) (.tmp 49) rfl (w.heap.size + 1) (#[.int .i64 2, .string (B []), .int .u64 (p.n : Nat), .int .u64 (q.n : Nat)]) (_) 24 rfl rfl (heap_below hS (by omega) Q1.out) infoE rfl (by simp [Value.oneCell']) ?_
 refine hK _ _ trivial fun _ => ?_
 clear hK K
 refine wpAnyH_done (by kernel_rfl) ?_ _
 go_wp2
 exact post_row (w.heap.size + 1) Tryz.results218 24 _ _ rfl (setRow_heap _ _ _ _ _ _ (heap_below hS (by omega) Q1.out)) Tryz.underlying24 rfl infoE rfl ⟨rfl, setRow_below _ (by omega) (GB.out.trans (hS.mono (by omega)))⟩
theorem read_any (t : Tr) (cs : List Value) (w : World) (h : TAt w t cs) : Calls Tryz.prog 218 #[.agg cs.toArray] w fun e w' => e = .returned (nmV (readT t)) ∧ Below w.heap.size w w' := by
 by_cases hk : t.k = 4 ∧ t.l.length = 2
 ·
  obtain ⟨k, n, s, l, o⟩ := t
  obtain ⟨hk, hl⟩ := hk
  simp only [Tr.k, Tr.l] at hk hl
  subst hk
  match l, hl with
  | [x, y], _ =>
   have e : readT (.mk 4 n s [x, y] o) = if x.k = 0 then readY x y else Nm.zero := rfl
   rw [e]
   by_cases hx : x.k = 0
   ·
    rw [if_pos hx]
    by_cases hxy : x.n = 2 ∧ y.l.length = 2
    ·
     obtain ⟨hx2, hy⟩ := hxy
     match hyl : y.l, hy with
     | [p, q], _ =>
      rw [readY_two hyl hx2]
      exact read_two x y p q n s o cs w h hx hx2 hyl
    ·
     rw [readY_rest hxy]
     exact read_rest x y n s o cs w h hx hxy
   ·
    rw [if_neg hx]
    exact read_kind x y n s o cs w h hx
 ·
  have e : readT t = Nm.zero := by
   by_cases h2 : t.l.length = 2
   ·
    unfold readT
    rw [if_neg (fun h4 => hk ⟨h4, h2⟩)]
   · exact readT_len h2
  rw [e]
  exact read_len t cs w h hk
def Nm.right (m : Nm) : Bool := rightB m.s m.l m.n m.v
def Nm.tree (m : Nm) : Tr := nameT m.s m.l m.n m.v
def OfP (t : Tr) (m : Nm) : Prop := m.right = true ∧ rightT 8 t = true ∧ t = m.tree
def OfR (t : Tr) (e : Ending) : Prop := ∃ (m : Nm) (k : Nat), e = .returned (.tuple #[nmV m, .int .i64 k]) ∧ ((k = 0 ∧ OfP t m ∧ m = readT t) ∨ (k = 2 ∧ m = Nm.zero ∧ ¬ OfP t (readT t)))
theorem readT_bound {w : World} {t : Tr} {cs : List Value} (h : TAt w t cs) : (readT t).l.length ≤ R47 ∧ (readT t).n < W64 ∧ (readT t).v < W64 := by
 have hz : Nm.zero.l.length ≤ R47 ∧ Nm.zero.n < W64 ∧ Nm.zero.v < W64 := by decide
 have hn : Nm.none.l.length ≤ R47 ∧ Nm.none.n < W64 ∧ Nm.none.v < W64 := by decide
 unfold readT
 split
 ·
  split
  ·
   next x y hl =>
   obtain ⟨a, c, C, _, _, _, _, hel⟩ := box_item h
   rw [hl] at hel
   obtain ⟨_, _, _, _, _, hy, _⟩ := hel 1 y rfl
   obtain ⟨_, _, C1, _, _, hys, _, hel1⟩ := box_item hy
   have ht : (textOf x y).l.length ≤ R47 ∧ (textOf x y).n < W64 ∧ (textOf x y).v < W64 := by
    unfold textOf
    split
    · exact ⟨hys, (by decide : 0 < W64), (by decide : 0 < W64)⟩
    · exact hn
   split
   ·
    unfold readY
    split
    ·
     next p q hpq =>
     rw [hpq] at hel1
     obtain ⟨_, _, _, _, _, hp, _⟩ := hel1 0 p rfl
     obtain ⟨_, _, _, _, _, hq, _⟩ := hel1 1 q rfl
     obtain ⟨_, _, _, _, hpn, _⟩ := box_item hp
     obtain ⟨_, _, _, _, hqn, _⟩ := box_item hq
     split
     · exact ⟨Nat.zero_le _, hpn, hqn⟩
     · exact ht
    · exact ht
   · exact hz
  · exact hz
 · exact hz
theorem R47_max : R47 ≤ maxLen := by decide
set_option maxHeartbeats 1600000 in
set_option maxRecDepth 100000 in
theorem Of_no (t : Tr) (cs : List Value) (w : World) (h : TAt w t cs) (hr : (readT t).right = false) : Calls Tryz.prog 187 #[.agg cs.toArray] w fun e w' => OfR t e ∧ Below w.heap.size w w' := by
 have HP : Hid (OfR t (.returned (.tuple #[nmV Nm.zero, .int .i64 (2 : Nat)]))) := Lib.hid ⟨_, _, rfl, .inr ⟨rfl, rfl, fun ⟨h1, _⟩ => by rw [hr] at h1; cases h1⟩⟩
 obtain ⟨hb1, hb2, hb3⟩ := readT_bound h
 have HR := Lib.hid fun (W : World) (hb : Below w.heap.size w W) => read_any t cs W (h.keep hb (Nat.le_refl _))
 obtain ⟨m, hm⟩ : ∃ m, readT t = m := ⟨_, rfl⟩
 rw [hm] at HR hr hb1 hb2 hb3
 have HI := Lib.hid fun (W : World) => Item_no m.s m.l m.n m.v W (Nat.le_trans hb1 R47_max) hr
 have h5 : cs.toArray.size = 5 := by obtain ⟨_, _, _, he, _⟩ := h.form; rw [he]; rfl
 have H1 := Lib.hid (item_oneCell h)
 generalize cs.toArray = X at *
 have H5 := Lib.hid h5
 have HNV : Hid (nmV m = .agg #[.int .i64 m.s, .string (B m.l), .int .u64 m.n, .int .u64 m.v]) := Lib.hid rfl
 rw [HNV.out] at HR
 clear hm hb1 hb2 hb3 h hr h5
 generalize m.s = ms at *
 generalize m.l = ml at *
 generalize m.n = mn at *
 generalize m.v = mv at *
 go_enter Tryz.func187, Tryz.ntmps187
 go_wp2_with (with_reducible refine stop_load 89 rfl ?_)
 obtain ⟨w1, hw1⟩ : ∃ w1, (w.alloc (.cells X 89)).alloc (.cells #[.int .i64 0, .string ⟨#[]⟩, .int .u64 0, .int .u64 0] 24) = w1 := ⟨_, rfl⟩
 have gS : w1.heap.size = w.heap.size + 1 + 1 := by rw [← hw1]; show ((w.heap.push _).push _).size = _; simp
 have gb : Below w.heap.size w w1 := by rw [← hw1]; exact ((Below.refl _ _).alloc (Nat.le_refl _) _).alloc (by show w.heap.size ≤ (w.heap.push _).size; simp) _
 have q0 : w1.heap[w.heap.size]? = some (.cells X 89 (0, 0)) := by rw [← hw1]; exact heap_under (heap_alloc_last w _)
 have q1 : w1.heap[w.heap.size + 1]? = some (.cells #[.int .i64 0, .string ⟨#[]⟩, .int .u64 0, .int .u64 0] 24 (0, 0)) := by rw [← hw1]; exact heap_at (by show (w.heap.push _).size = _; simp)
 rw [hw1]
 clear hw1
 refine load_mid 89 (.tmp 1) rfl rfl (some 7) rfl w.heap.size 0 rfl X (rangeAt_row q0) _ Tryz.underlying89 rfl (by rw [H5.out]; exact infoI) ?_
 have Q1 := Lib.hid q1
 have Q0 := Lib.hid q0
 have GB := Lib.hid gb
 clear q0 q1 gb
 go_wp2_with fail
 refine (HR.out _ GB.out).mono ?_
 rintro e w2 ⟨rfl, hb2⟩
 have B2 := Lib.hid hb2
 clear hb2
 go_wp2_with fail
 refine (HI.out _).mono ?_
 rintro e w3 ⟨rfl, hb3⟩
 have q3 : Below w1.heap.size w1 (w2.alloc (.cells #[.int .i64 ms, .string (B ml), .int .u64 mn, .int .u64 mv] 24)) := B2.out.alloc B2.out.size _
 have B3 := Lib.hid (q3.trans (hb3.mono q3.size))
 clear hb3 q3
 go_wp2_with (with_reducible refine stop_store 24 rfl ?_)
 have q4 : Below w1.heap.size w1 (w3.alloc (.cells #[.int .i64 0, .int .u64 0, .string (B []), .slice none 0 0, .bool false] 89)) := B3.out.alloc B3.out.size _
 refine store_row 24 (.tmp 2) (.tmp 22) rfl rfl rfl (w.heap.size + 1) #[.int .i64 0, .string ⟨#[]⟩, .int .u64 0, .int .u64 0] rfl rfl 24 _ (heap_below q4 (by omega) Q1.out) infoE rfl (by simp [Value.oneCell']) ?_
 have B4 := Lib.hid q4
 clear q4
 go_wp2
 exact post_row_tmp (w.heap.size + 1) Tryz.results187 24 _ _ (.int .i64 2) rfl rfl (setRow_heap _ _ _ _ _ _ (heap_below B4.out (by omega) Q1.out)) Tryz.underlying24 rfl infoE rfl ⟨HP.out, setRow_below _ (by omega) (GB.out.trans (B4.out.mono (by omega)))⟩
set_option maxHeartbeats 1600000 in
set_option maxRecDepth 100000 in
theorem Of_yes (t : Tr) (cs : List Value) (w : World) (h : TAt w t cs) (hr : (readT t).right = true) : Calls Tryz.prog 187 #[.agg cs.toArray] w fun e w' => OfR t e ∧ Below w.heap.size w w' := by
 obtain ⟨hb1, hb2, hb3⟩ := readT_bound h
 have HR := Lib.hid fun (W : World) (hb : Below w.heap.size w W) => read_any t cs W (h.keep hb (Nat.le_refl _))
 obtain ⟨m, hm⟩ : ∃ m, readT t = m := ⟨_, rfl⟩
 rw [hm] at HR hr hb1 hb2 hb3
 have HI := Lib.hid fun (W : World) => Item_any m.s m.l m.n m.v W (Nat.le_trans hb1 R47_max) hb1 hb2 hb3 hr
 have HP : Hid (∀ k : Bool, (k = true ↔ rightT 8 t = true ∧ rightT 8 m.tree = true ∧ t = m.tree) → (k = true → OfR t (.returned (.tuple #[nmV m, .int .i64 (0 : Nat)]))) ∧ (k = false → OfR t (.returned (.tuple #[nmV Nm.zero, .int .i64 (2 : Nat)])))) := Lib.hid fun k hk => by
  constructor
  ·
   intro h1
   obtain ⟨h2, _, h3⟩ := hk.1 h1
   exact ⟨_, _, rfl, .inl ⟨rfl, ⟨hr, h2, h3⟩, hm.symm⟩⟩
  ·
   intro h1
   refine ⟨_, _, rfl, .inr ⟨rfl, rfl, fun ⟨_, h2, h3⟩ => ?_⟩⟩
   rw [hm] at h3
   have := hk.2 ⟨h2, by rw [← h3]; exact h2, h3⟩
   rw [h1] at this
   cases this
 have HS := Lib.hid fun (W : World) (hb : Below w.heap.size w W) (ds : List Value) (hd : TAt W m.tree ds) => Same_any t m.tree cs ds W (h.keep hb (Nat.le_refl _)) hd
 have h5 : cs.toArray.size = 5 := by obtain ⟨_, _, _, he, _⟩ := h.form; rw [he]; rfl
 have H1 := Lib.hid (item_oneCell h)
 generalize cs.toArray = X at *
 have H5 := Lib.hid h5
 have HNV : Hid (nmV m = .agg #[.int .i64 m.s, .string (B m.l), .int .u64 m.n, .int .u64 m.v]) := Lib.hid rfl
 rw [HNV.out] at HR HP
 clear hm hb1 hb2 hb3 h hr h5
 have HT : Hid (nameT m.s m.l m.n m.v = m.tree) := Lib.hid rfl
 generalize m.tree = mt at *
 generalize m.s = ms at *
 generalize m.l = ml at *
 generalize m.n = mn at *
 generalize m.v = mv at *
 go_enter Tryz.func187, Tryz.ntmps187
 go_wp2_with (with_reducible refine stop_load 89 rfl ?_)
 obtain ⟨w1, hw1⟩ : ∃ w1, (w.alloc (.cells X 89)).alloc (.cells #[.int .i64 0, .string ⟨#[]⟩, .int .u64 0, .int .u64 0] 24) = w1 := ⟨_, rfl⟩
 have gS : w1.heap.size = w.heap.size + 1 + 1 := by rw [← hw1]; show ((w.heap.push _).push _).size = _; simp
 have gb : Below w.heap.size w w1 := by rw [← hw1]; exact ((Below.refl _ _).alloc (Nat.le_refl _) _).alloc (by show w.heap.size ≤ (w.heap.push _).size; simp) _
 have q0 : w1.heap[w.heap.size]? = some (.cells X 89 (0, 0)) := by rw [← hw1]; exact heap_under (heap_alloc_last w _)
 have q1 : w1.heap[w.heap.size + 1]? = some (.cells #[.int .i64 0, .string ⟨#[]⟩, .int .u64 0, .int .u64 0] 24 (0, 0)) := by rw [← hw1]; exact heap_at (by show (w.heap.push _).size = _; simp)
 rw [hw1]
 clear hw1
 refine load_mid 89 (.tmp 1) rfl rfl (some 7) rfl w.heap.size 0 rfl X (rangeAt_row q0) _ Tryz.underlying89 rfl (by rw [H5.out]; exact infoI) ?_
 have Q1 := Lib.hid q1
 have Q0 := Lib.hid q0
 have GB := Lib.hid gb
 clear q0 q1 gb
 go_wp2_with fail
 refine (HR.out _ GB.out).mono ?_
 rintro e w2 ⟨rfl, hb2⟩
 have B2 := Lib.hid hb2
 clear hb2
 go_wp2_with fail
 refine (HI.out _).mono ?_
 rintro e w3 ⟨ds, rfl, htd, hb3⟩
 rw [HT.out] at htd
 have q2 : Below w1.heap.size w1 (w2.alloc (.cells #[.int .i64 ms, .string (B ml), .int .u64 mn, .int .u64 mv] 24)) := B2.out.alloc B2.out.size _
 have hl2 : w2.heap.size < w3.heap.size := Nat.lt_of_lt_of_le lt_of_last hb3.size
 have q4 := heap_below hb3 lt_of_last (heap_alloc_last w2 (.cells #[.int .i64 ms, .string (B ml), .int .u64 mn, .int .u64 mv] 24))
 have B3 := Lib.hid (q2.trans (hb3.mono q2.size))
 have Q4 := Lib.hid q4
 have hd5 : ds.toArray.size = 5 := by rw [List.size_toArray]; exact tat_len htd
 have HD1 := Lib.hid (item_oneCell htd)
 have HTD := Lib.hid htd
 have HSD := Lib.hid fun (W : World) (hb : Below w.heap.size w W) (hd : TAt W mt ds) => HS.out W hb ds hd
 have HD5 := Lib.hid hd5
 clear hb3 q2 q4 htd hd5 HS
 generalize ds.toArray = Y at *
 go_wp2_with (with_reducible refine stop_store 89 rfl ?_)
 refine store_row 89 (.tmp 5) (.tmp 12) rfl rfl rfl w3.heap.size Y rfl rfl 89 #[.int .i64 0, .int .u64 0, .string ⟨#[]⟩, .slice none 0 0, .bool false] (heap_alloc_last w3 _) (by rw [HD5.out]; exact infoI) (by rw [HD5.out]; rfl) HD1.out ?_
 rw [World.setRow_alloc_new]
 have b4 : Below w3.heap.size w3 (w3.alloc (.cells Y 89)) := (Below.refl _ _).alloc (Nat.le_refl _) _
 have qy := heap_alloc_last w3 (.cells Y 89)
 have ly : w3.heap.size < (w3.alloc (.cells Y 89)).heap.size := lt_of_last
 have B4 := Lib.hid (B3.out.trans (b4.mono B3.out.size))
 have T4 := Lib.hid (HTD.out.keep b4 (Nat.le_refl _))
 have Q5 := Lib.hid (heap_below b4 hl2 Q4.out)
 have QY := Lib.hid qy
 generalize w3.alloc (.cells Y 89) = w4 at *
 have QX := Lib.hid (heap_below B4.out (by omega) Q0.out)
 have BW := Lib.hid (GB.out.trans (B4.out.mono (by omega)))
 clear b4 qy HTD
 go_wp2_with (with_reducible refine stop_load 89 rfl ?_)
 refine load_mid_g 89 (.tmp 1) rfl rfl (some 17) rfl w.heap.size 0 rfl X (rangeAt_row QX.out) _ Tryz.underlying89 rfl (by rw [H5.out]; exact infoI) ?_
 go_wp2_with (with_reducible refine stop_load 89 rfl ?_)
 refine load_mid_g 89 (.tmp 5) rfl rfl (some 18) rfl w3.heap.size 0 rfl Y (rangeAt_row QY.out) _ Tryz.underlying89 rfl (by rw [HD5.out]; exact infoI) ?_
 go_wp2_with fail
 refine (HSD.out _ BW.out T4.out).mono ?_
 rintro e w5 ⟨⟨k, rfl, hk⟩, hb5⟩
 have HK := Lib.hid (HP.out k hk)
 have hs4 := B4.out.size
 have B5 := Lib.hid (B4.out.trans (hb5.mono hs4))
 have Q6 := Lib.hid (heap_below hb5 (by omega) Q5.out)
 have hl6 : w2.heap.size < w5.heap.size := by have := hb5.size; omega
 clear hb5 hk HP
 cases k with
 | false =>
  go_wp2_with (with_reducible refine stop_store 24 rfl ?_)
  refine store_row 24 (.tmp 2) (.tmp 22) rfl rfl rfl (w.heap.size + 1) #[.int .i64 0, .string ⟨#[]⟩, .int .u64 0, .int .u64 0] rfl rfl 24 _ (heap_below B5.out (by omega) Q1.out) infoE rfl (by simp [Value.oneCell']) ?_
  go_wp2
  exact post_row_tmp (w.heap.size + 1) Tryz.results187 24 _ _ (.int .i64 2) rfl rfl (setRow_heap _ _ _ _ _ _ (heap_below B5.out (by omega) Q1.out)) Tryz.underlying24 rfl infoE rfl ⟨HK.out.2 (by first | rfl | trivial), setRow_below _ (by omega) (GB.out.trans (B5.out.mono (by omega)))⟩
 | true =>
  go_wp2_with (with_reducible refine stop_load 24 rfl ?_)
  refine load_mid 24 (.tmp 4) rfl rfl (some 23) rfl w2.heap.size 0 rfl _ (rangeAt_row Q6.out) _ Tryz.underlying24 rfl infoE ?_
  go_wp2_with (with_reducible refine stop_store 24 rfl ?_)
  refine store_row 24 (.tmp 2) (.tmp 23) rfl rfl rfl (w.heap.size + 1) #[.int .i64 ms, .string (B ml), .int .u64 mn, .int .u64 mv] rfl rfl 24 _ (heap_below B5.out (by omega) Q1.out) infoE rfl (by simp [Value.oneCell']) ?_
  go_wp2
  exact post_row_tmp (w.heap.size + 1) Tryz.results187 24 _ _ (.int .i64 0) rfl rfl (setRow_heap _ _ _ _ _ _ (heap_below B5.out (by omega) Q1.out)) Tryz.underlying24 rfl infoE rfl ⟨HK.out.1 (by first | rfl | trivial), setRow_below _ (by omega) (GB.out.trans (B5.out.mono (by omega)))⟩
theorem Of_any (t : Tr) (cs : List Value) (w : World) (h : TAt w t cs) : Calls Tryz.prog 187 #[.agg cs.toArray] w fun e w' => OfR t e ∧ Below w.heap.size w w' := by
 cases hr : (readT t).right with
 | false => exact Of_no t cs w h hr
 | true => exact Of_yes t cs w h hr
end Go.Proofs.YtcdjakemdlinhaaGreatDoor.Itm
namespace Go.Proofs.YtcdjakemdlinhaaGreatDoor.Itm
open Go.ChangeShapes Go.WideShapes Go.ChangeAt Go.RowKit Go.Deep Go.Great Go.Proofs.YtcdjakemdlinhaaGreatDoor.Eid
theorem right_len {m : Nm} (h : m.right = true) : m.l.length ≤ 60 := by
 unfold Nm.right rightB at h
 split at h
 ·
  rw [Bool.and_eq_true] at h
  by_cases hl : m.l.length ≤ 60
  · exact hl
  ·
   have := namedB_long m.l (by omega)
   rw [this] at h
   cases h.2
 ·
  split at h
  ·
   rw [decide_eq_true_eq] at h
   rw [h.1]
   exact Nat.zero_le _
  · cases h
theorem readT_tree {m : Nm} (h : m.right = true) : readT m.tree = m := by
 obtain ⟨s, l, n, v⟩ := m
 unfold Nm.right rightB at h
 simp only at h
 split at h
 ·
  next hs =>
  rw [Bool.and_eq_true, decide_eq_true_eq] at h
  obtain ⟨⟨hn, hv⟩, _⟩ := h
  obtain rfl : s = 1 := by omega
  obtain rfl : n = 0 := by omega
  obtain rfl : v = 0 := by omega
  by_cases hl : l = [110, 111, 110, 101]
  · subst hl; rfl
  · simp [Nm.tree, nameT, twoT, arrT, numT, hl, readT, Tr.k, Tr.l, readY, textOf, Tr.n, Tr.s]
 ·
  split at h
  ·
   next hs =>
   rw [decide_eq_true_eq] at h
   obtain ⟨rfl, _, _⟩ := h
   obtain rfl : s = 2 := by omega
   rfl
  · cases h
end Go.Proofs.YtcdjakemdlinhaaGreatDoor.Itm
namespace Go.Proofs.YtcdjakemdlinhaaGreatDoor.Itm
open Go.ChangeShapes Go.WideShapes Go.ChangeAt Go.RowKit Go.Deep
def codeN (n : Nat) : Nat := if n < 24 then n else if n < 256 then 24 else if n < 65536 then 25 else if n < 4294967296 then 26 else 27
def lenN (n : Nat) : Nat := if n < 24 then 0 else if n < 256 then 1 else if n < 65536 then 2 else if n < 4294967296 then 4 else 8
theorem headB_eq (m n : Nat) : headB m n = UInt8.ofNat (32 * m + codeN n) :: dg n (lenN n) := by
 unfold headB codeN lenN
 repeat' split
 all_goals rfl
theorem codeN_lt (n : Nat) : codeN n < 28 := by
 unfold codeN
 repeat' split
 all_goals omega
inductive NOk : Tr → Prop
 | mk (k : Int) (n : Nat) (s : List UInt8) (l : List Tr) (o : Bool) (hn : n < W64) (hs : s.length < W64) (hl : ∀ (i : Nat) (t : Tr), l[i]? = some t → NOk t) : NOk (.mk k n s l o)
inductive Form : Tr → Prop
 | num (n : Nat) : Form (.mk 0 n [] [] false)
 | str (s : List UInt8) : Form (.mk 2 0 s [] false)
 | text (s : List UInt8) : Form (.mk 3 0 s [] false)
 | arr (l : List Tr) (h : l.length ≤ 1000) : Form (.mk 4 0 [] l false)
 | opn (l : List Tr) : Form (.mk 4 0 [] l true)
theorem form_of {t : Tr} (h : plainB t = true) : Form t := by
 obtain ⟨k, n, s, l, o⟩ := t
 rw [plainB_eq] at h
 rcases okN_true (Bool.and_eq_true_iff.1 h).1 with ⟨h1, h2, h3, h4⟩ | ⟨h1, h2, h3, h4⟩ | ⟨h1, h2, h3, h4⟩ | ⟨h1, h2, h3, h4⟩
 ·
  simp only [Tr.k, Tr.s, Tr.o, Tr.l] at h1 h2 h3 h4
  obtain rfl := List.length_eq_zero_iff.1 h3
  subst h1 h2 h4
  exact .num n
 ·
  simp only [Tr.k, Tr.n, Tr.o, Tr.l] at h1 h2 h3 h4
  obtain rfl := List.length_eq_zero_iff.1 h3
  subst h1 h2 h4
  exact .str s
 ·
  simp only [Tr.k, Tr.n, Tr.o, Tr.l] at h1 h2 h3 h4
  obtain rfl := List.length_eq_zero_iff.1 h3
  subst h1 h2 h4
  exact .text s
 ·
  simp only [Tr.k, Tr.n, Tr.s, Tr.l] at h1 h2 h3 h4
  subst h1 h2 h3
  cases o with
  | false => exact .arr l h4
  | true => exact .opn l
theorem bytes_num (n : Nat) : bytesB (.mk 0 n [] [] false) = headB 0 n := by rw [bytesB]; simp
theorem bytes_str (s : List UInt8) : bytesB (.mk 2 0 s [] false) = headB 2 s.length ++ s := by rw [bytesB]; simp
theorem bytes_text (s : List UInt8) : bytesB (.mk 3 0 s [] false) = headB 3 s.length ++ s := by rw [bytesB]; simp
theorem bytes_arr (l : List Tr) : bytesB (.mk 4 0 [] l false) = headB 4 l.length ++ bytesL l := by rw [bytesB]; simp
theorem bytes_opn (l : List Tr) : bytesB (.mk 4 0 [] l true) = UInt8.ofNat (32 * 4 + 31) :: (bytesL l ++ [255]) := by rw [bytesB]; simp
end Go.Proofs.YtcdjakemdlinhaaGreatDoor.Itm
