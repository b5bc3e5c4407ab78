/-
  The walks of Few of rules, of primaries and of bundles: what they let pass is short.
  Conditions: none.
-/
import Derived.Test.YthoickghfjgmmaaPol6
namespace Go.Proofs.Ythoickghfjgmmaa.Pol
open Go.ChangeShapes Go.WideShapes Go.ChangeAt Go.RowKit Go.Deep Go.Great Go.Proofs.Ythoickghfjgmmaa.Eid
theorem load_mid_g {P : Program} {ops : Array Oper} {rest : List Oper} {o : Oper} {a : Act} {w : World} {Q : Exit → Act → World → Prop} (ty : TypeId) (x : Operand) (ho : o.op = .load ty x) (hwt : Region.wanted o (yielded ops a.tmps) = true) (dst : Option Tmp) (hdst : o.dst = dst)
    (b f : Nat) (hx : a.eval x = .pointer (some ⟨b, f, none⟩)) (c : Array Value) (hc : w.rangeAt b f c.toList) (d : TypeDesc) (hu : P.underlying ty = some d) (hd : d.isRow = true) (hi : (P.info? ty).map (·.size) = some c.size)
    (h : wpList P ops Q rest (a.put dst (.agg c)) w) : RowKit.Hid (wpList P ops Q (o :: rest) a w) :=
  Lib.hid (wpList_step fun K hK => by
    rw [if_pos hwt]
    exact wp_load_mid ty x ho b f hx c.toList d hc hu hd (by simpa using hi) (hK _ _ (by subst hdst; simpa using h)))
def FewPost (n : Nat) (e : Ending) : Prop := ∃ k, e = .returned (.bool k) ∧ (k = true → n ≤ 20)
set_option maxHeartbeats 1600000 in
set_option maxRecDepth 100000 in
theorem rFew_any (v : Value) (rs : List RuleB) (w : World) (hv : RulesAt w v rs) :
    Calls Try.prog 33 #[v] w fun e w' => FewPost rs.length e ∧ Below w.heap.size w w' := by
  have hml : rs.length ≤ maxLen := by have := hv.1.1; rwa [List.length_map] at this
  obtain ⟨a, c, rfl, hR⟩ := hv.form
  clear hv
  obtain ⟨n, hl⟩ : ∃ n, rs.length = n := ⟨_, rfl⟩
  rw [hl] at hml
  rw [hl]
  have HR := Lib.hid hR
  have HL := Lib.hid hl
  clear hR hl
  unfold maxLen at hml
  go_enter Try.func33, Try.ntmps33
  go_wp2_with fail
  go_loopw [3] (fun s3 wr => ∃ i : Nat, i ≤ n ∧ i ≤ 30 ∧ s3 = .int .i64 (i : Int) ∧ Below w.heap.size w wr) (fun s _ => 30 - (intOf s).toNat)
  case atStart => exact ⟨0, by omega, by omega, rfl, Below.refl _ _⟩
  case round =>
    obtain ⟨i, hi, hi30, rfl, hb⟩ := hrel
    by_cases hend : i = n
    · have hlt : ¬ (i : Int) < (n : Int) := by omega
      clear hend
      go_wp2
      all_goals
        go_ret
        exact ⟨⟨_, rfl, by simp <;> omega⟩, hb⟩
    · have hlt : (i : Int) < (n : Int) := by omega
      by_cases h30 : i = 30
      · have hlt2 : ¬ (i : Int) < 30 := by omega
        have hn20 : ¬ (n : Int) ≤ 20 := by omega
        clear h30 hend
        go_wp2
        go_ret
        exact ⟨⟨_, rfl, by simp⟩, hb⟩
      · have hlt2 : (i : Int) < 30 := by omega
        obtain ⟨r, hr⟩ : ∃ r, rs[i]? = some r := ⟨rs[i]'(by rw [HL.out]; omega), List.getElem?_eq_getElem (by rw [HL.out]; omega)⟩
        obtain ⟨b, o, rfl, hbw, hra⟩ := HR.out i r hr
        have hrr := rangeAt_below hra hb hbw
        have d3 : wr.cell? ⟨b, o + i * 17 + 3, none⟩ = some (.int .i64 r.ss) := hrr 3 _ rfl
        have d4 : wr.cell? ⟨b, o + i * 17 + 4, none⟩ = some (.string (B r.sl)) := hrr 4 _ rfl
        have d5 : wr.cell? ⟨b, o + i * 17 + 5, none⟩ = some (.int .u64 r.sn) := hrr 5 _ rfl
        have d6 : wr.cell? ⟨b, o + i * 17 + 6, none⟩ = some (.int .u64 r.sv) := hrr 6 _ rfl
        have d8 : wr.cell? ⟨b, o + i * 17 + 8, none⟩ = some (.int .i64 r.ds) := hrr 8 _ rfl
        have d9 : wr.cell? ⟨b, o + i * 17 + 9, none⟩ = some (.string (B r.dl)) := hrr 9 _ rfl
        have d10 : wr.cell? ⟨b, o + i * 17 + 10, none⟩ = some (.int .u64 r.dn) := hrr 10 _ rfl
        have d11 : wr.cell? ⟨b, o + i * 17 + 11, none⟩ = some (.int .u64 r.dv) := hrr 11 _ rfl
        have hbW : b < wr.heap.size := Nat.lt_of_lt_of_le hbw hb.size
        clear hrr hra hr hend h30
        have F1 := Lib.hid fun W => Few_any r.ss r.sl r.sn r.sv W
        have F2 := Lib.hid fun W => Few_any r.ds r.dl r.dn r.dv W
        generalize decide (r.sl.length ≤ 100) = m1 at *
        generalize decide (r.dl.length ≤ 100) = m2 at *
        have hB := Lib.hid hb
        have hbs := hb.size
        clear hb
        cases m1
        · go_wp2_with fail
          refine Calls.ext (F1.out _) fun u1 => ?_
          go_wp2
          go_ret
          exact ⟨⟨_, rfl, by simp⟩, Below.ext hB.out hbs _⟩
        · cases m2
          · go_wp2_with fail
            refine Calls.ext (F1.out _) fun u1 => ?_
            go_wp2_with fail
            refine Calls.ext (F2.out _) fun u2 => ?_
            go_wp2
            go_ret
            exact ⟨⟨_, rfl, by simp⟩, Below.ext hB.out hbs _⟩
          · go_wp2_with fail
            refine Calls.ext (F1.out _) fun u1 => ?_
            go_wp2_with fail
            refine Calls.ext (F2.out _) fun u2 => ?_
            go_wp2
            go_round
            case rel => exact ⟨i + 1, by omega, by omega, by go_num, Below.ext hB.out hbs _⟩
            case measure => simp [intOf]; omega
def SomeBool (e : Ending) : Prop := ∃ k, e = .returned (.bool k)
set_option maxHeartbeats 1600000 in
set_option maxRecDepth 100000 in
theorem pFew_any (p : PrimB) (w : World) : Calls Try.prog 67 #[.agg p.cells.toArray] w fun e w' => SomeBool e ∧ Below w.heap.size w w' := by
  obtain ⟨b0, b1, b2, b3, b4, b5, b6, b7, b8, b9, b10, b11, b12, b13, b14, b15, b16, b17, b18⟩ := p
  simp only [PrimB.cells]
  have F1 := Lib.hid fun W => Few_any b2 b3 b4 b5 W
  have F2 := Lib.hid fun W => Few_any b6 b7 b8 b9 W
  have F3 := Lib.hid fun W => Few_any b10 b11 b12 b13 W
  generalize decide (b3.length ≤ 100) = m1 at *
  generalize decide (b7.length ≤ 100) = m2 at *
  generalize decide (b11.length ≤ 100) = m3 at *
  cases m1
  · go_enter Try.func67, Try.ntmps67
    go_wp2_with fail
    refine Calls.ext (F1.out _) fun u1 => ?_
    go_wp2
    go_ret
    exact ⟨⟨_, rfl⟩, by ((repeat' (with_reducible first | exact Below.refl _ _ | assumption | refine Below.drew ?_ | refine below_drewN ?_ _ | refine Below.setCell ?_ ?_ _ | refine Below.alloc ?_ ?_ _ | refine Below.ext ?_ ?_ _ | refine Below.trans ?_ (Below.mono ‹_› ?_))) <;> first | omega | (simp; done) | (simp; omega))⟩
  · cases m2
    · go_enter Try.func67, Try.ntmps67
      go_wp2_with fail
      refine Calls.ext (F1.out _) fun u1 => ?_
      go_wp2_with fail
      refine Calls.ext (F2.out _) fun u2 => ?_
      go_wp2
      go_ret
      exact ⟨⟨_, rfl⟩, by ((repeat' (with_reducible first | exact Below.refl _ _ | assumption | refine Below.drew ?_ | refine below_drewN ?_ _ | refine Below.setCell ?_ ?_ _ | refine Below.alloc ?_ ?_ _ | refine Below.ext ?_ ?_ _ | refine Below.trans ?_ (Below.mono ‹_› ?_))) <;> first | omega | (simp; done) | (simp; omega))⟩
    · go_enter Try.func67, Try.ntmps67
      go_wp2_with fail
      refine Calls.ext (F1.out _) fun u1 => ?_
      go_wp2_with fail
      refine Calls.ext (F2.out _) fun u2 => ?_
      go_wp2_with fail
      refine Calls.ext (F3.out _) fun u3 => ?_
      go_wp2
      go_ret
      exact ⟨⟨_, rfl⟩, by ((repeat' (with_reducible first | exact Below.refl _ _ | assumption | refine Below.drew ?_ | refine below_drewN ?_ _ | refine Below.setCell ?_ ?_ _ | refine Below.alloc ?_ ?_ _ | refine Below.ext ?_ ?_ _ | refine Below.trans ?_ (Below.mono ‹_› ?_))) <;> first | omega | (simp; done) | (simp; omega))⟩
set_option maxHeartbeats 1600000 in
set_option maxRecDepth 100000 in
theorem bFew_any (bv : Value) (bs : List BlkB) (p : PrimB) (w : World) (hv : BlksAt w bv bs) :
    Calls Try.prog 34 #[.agg (bunCells p bv).toArray] w fun e w' => FewPost bs.length e ∧ Below w.heap.size w w' := by
  have hml : bs.length ≤ maxLen := by have := hv.1.1; rwa [List.length_map] at this
  have hok := hv.2
  have HBV := Lib.hid hv
  clear hv
  obtain ⟨C, hC⟩ : ∃ C, (bunCells p bv).toArray = C := ⟨_, rfl⟩
  have hCl : C.toList = p.cells ++ [bv] := by rw [← hC]; rfl
  have HCl := Lib.hid hCl
  rw [hC]
  clear hC hCl
  obtain ⟨w1, hw1⟩ : ∃ w1, w.alloc (.cells C 62) = w1 := ⟨_, rfl⟩
  have gB : w1.heap[w.heap.size]? = some (.cells C 62 (0, 0)) := by rw [← hw1]; exact heap_alloc_last w _
  have gS : w1.heap.size = w.heap.size + 1 := by rw [← hw1]; show (w.heap.push _).size = _; simp
  have gb : Below w.heap.size w w1 := by rw [← hw1]; exact (Below.refl _ _).alloc (Nat.le_refl _) _
  have gP : w1.rangeAt w.heap.size 0 p.cells := fun j u hj => by
    rw [Nat.zero_add, cell_of_row _ _ _ _ _ _ gB, ← Array.getElem?_toList, HCl.out, List.getElem?_append_left (List.getElem?_eq_some_iff.1 hj).1]
    exact hj
  have gV : w1.cell? ⟨w.heap.size, 19, none⟩ = some bv := by
    rw [cell_of_row _ _ _ _ _ _ gB, ← Array.getElem?_toList, HCl.out]
    rfl
  obtain ⟨ba, bc, hbf, hbx⟩ := (HBV.out.below gb (Nat.le_refl _)).form
  obtain ⟨n, hnb⟩ : ∃ n, bs.length = n := ⟨_, rfl⟩
  rw [hnb] at hbf hml
  rw [hnb]
  subst hbf
  have HBX := Lib.hid hbx
  have HNB := Lib.hid hnb
  have GP := Lib.hid gP
  have GB := Lib.hid gb
  have HOK := Lib.hid hok
  clear hbx hnb HCl HBV gB gb gP hok
  unfold maxLen at hml
  go_enter Try.func34, Try.ntmps34
  go_upto_region 1 with fail
  clear hw1
  go_wp2_with fail
  go_loopw [3] (fun s3 wr => ∃ i : Nat, i ≤ n ∧ i ≤ 30 ∧ s3 = .int .i64 (i : Int) ∧ wr = w1) (fun s _ => 30 - (intOf s).toNat)
  case atStart => exact ⟨0, by omega, by omega, rfl, rfl⟩
  case round =>
    obtain ⟨i, hi, hi30, rfl, rfl⟩ := hrel
    by_cases hend : i = n
    · have hlt : ¬ (i : Int) < (n : Int) := by omega
      clear hend
      by_cases h20 : (n : Int) ≤ 20
      · go_wp2_with (with_reducible refine stop_load 59 rfl ?_)
        refine load_mid_g 59 (.tmp 28) rfl rfl (some 29) rfl w.heap.size 0 rfl p.cells.toArray GP.out _ Try.underlying59 rfl infoP ?_
        go_wp2_with fail
        refine (pFew_any p _).mono ?_
        rintro e w2 ⟨⟨k, rfl⟩, hb2⟩
        have H2 := Lib.hid (GB.out.trans (hb2.mono (by omega)))
        clear hb2
        go_wp2
        go_ret
        exact ⟨⟨_, rfl, fun _ => by omega⟩, H2.out⟩
      · go_wp2
        go_ret
        exact ⟨⟨_, rfl, by simp⟩, GB.out⟩
    · have hlt : (i : Int) < (n : Int) := by omega
      by_cases h30 : i = 30
      · have hlt2 : ¬ (i : Int) < 30 := by omega
        have hn20 : ¬ (n : Int) ≤ 20 := by omega
        clear h30 hend
        go_wp2
        go_ret
        exact ⟨⟨_, rfl, by simp⟩, GB.out⟩
      · have hlt2 : (i : Int) < 30 := by omega
        obtain ⟨r, hr⟩ : ∃ r, bs[i]? = some r := ⟨bs[i]'(by rw [HNB.out]; omega), List.getElem?_eq_getElem (by rw [HNB.out]; omega)⟩
        obtain ⟨b, o, rfl, hbw, hra⟩ := HBX.out i r hr
        have d4 : wr.cell? ⟨b, o + i * 5 + 4, none⟩ = some (.string (B r.data)) := hra 4 _ rfl
        have hdl := HOK.out r (List.mem_of_getElem? hr)
        unfold BlkB.ok maxLen at hdl
        clear hra hr hend h30
        go_wp2
        · go_ret
          exact ⟨⟨_, rfl, by simp⟩, GB.out⟩
        · go_round
          case rel => exact ⟨i + 1, by omega, by omega, by go_num, trivial⟩
          case measure => simp [intOf]; omega
end Go.Proofs.Ythoickghfjgmmaa.Pol
