/-
  The walk of the reference's Pick: the first rule that fits.
  Conditions: names are no longer than the model lets them be; at most 1000 rules.
-/
import Derived.Test.YthoickghfjgmmaaPol2
namespace Go.Proofs.Ythoickghfjgmmaa.Pol
open Go.ChangeShapes Go.WideShapes Go.ChangeAt Go.RowKit Go.Proofs.Ythoickghfjgmmaa.Eid
set_option maxHeartbeats 3200000 in
set_option maxRecDepth 100000 in
theorem rPick_any (v : Value) (rs : List RuleB) (role op typ : Int) (p : PrimB) (w : World) (hv : RulesAt w v rs) (hn : rs.length ≤ 1000) (hp : p.ok) :
    Calls Try.prog 36 #[v, .int .i64 role, .int .i64 op, .agg p.cells.toArray, .int .i64 typ] w fun e w' => e = .returned (pickV (pickB rs role op typ p)) ∧ Below w.heap.size w w' := by
  have hok := hv.2
  obtain ⟨a, c, rfl, hR⟩ := hv.form
  clear hv
  obtain ⟨n, hl⟩ : ∃ n, rs.length = n := ⟨_, rfl⟩
  rw [hl] at hn
  rw [hl]
  have HOK := Lib.hid hok
  have HR := Lib.hid hR
  have HL := Lib.hid hl
  have HP : ∀ f, pickB rs role op typ p = f → pickV (pickB rs role op typ p) = pickV f := fun f h => by rw [h]
  obtain ⟨R, hP⟩ : ∃ R, pickV (pickB rs role op typ p) = R := ⟨_, rfl⟩
  rw [hP] at HP
  have HP2 := Lib.hid HP
  rw [hP]
  clear hP hR hl hok HP
  obtain ⟨C, hC⟩ : ∃ C, p.cells.toArray = C := ⟨_, rfl⟩
  have HC := Lib.hid hC
  rw [hC]
  clear hC
  have HPO := Lib.hid hp
  clear hp
  go_enter Try.func36, Try.ntmps36
  go_wp2_with fail
  go_loopw [12] (fun s12 wr => ∃ i : Nat, i ≤ n ∧ s12 = .int .i64 (i : Int) ∧ Hid ((rs.take i).find? (fun r => fitsB r role op typ p) = none) ∧ Hid (wr.heap[w.heap.size]? = some (.cells C 59 (0, 0))) ∧ Hid (wr.heap[w.heap.size + 1]? = some (.cells zeroR.cells.toArray 68 (0, 0))) ∧ Below w.heap.size w wr) (fun s _ => n - (intOf s).toNat)
  case atStart =>
    refine ⟨0, by omega, rfl, Lib.hid rfl, ?_, ?_, by ((repeat' (with_reducible first | exact Below.refl _ _ | assumption | refine Below.drew ?_ | refine below_drewN ?_ _ | refine Below.setCell ?_ ?_ _ | refine Below.alloc ?_ ?_ _ | refine Below.ext ?_ ?_ _ | refine Below.trans ?_ (Below.mono ‹_› ?_))) <;> first | omega | (simp; done) | (simp; omega))⟩
    · exact Lib.hid (heap_under (heap_alloc_last w _))
    · exact Lib.hid (heap_at (by show (w.heap.push _).size = _; simp))
  case round =>
    obtain ⟨i, hi, rfl, hno, hq, hz, hbl⟩ := hrel
    by_cases hend : i = n
    · have hlt : ¬ (i : Int) < (n : Int) := by omega
      have hpk : pickB rs role op typ p = none := by
        have := hno.out
        rw [hend, ← HL.out, List.take_length] at this
        exact this
      have HRV := Lib.hid (HP2.out _ hpk)
      clear hend hpk hno
      go_wp2_with (with_reducible refine stop_store 68 rfl ?_)
      refine store_row 68 (.tmp 10) (.tmp 55) rfl rfl rfl (w.heap.size + 1) zeroR.cells.toArray rfl rfl 68 zeroR.cells.toArray hz.out infoR rfl (oneR _) ?_
      rw [setRow_same _ _ _ _ _ hz.out]
      go_wp2
      refine post_row_tmp (w.heap.size + 1) rfl 68 zeroR.cells.toArray _ (.bool false) rfl rfl hz.out Try.underlying68 rfl infoR rfl ?_
      exact ⟨by rw [HRV.out]; rfl, hbl⟩
    · have hlt : (i : Int) < (n : Int) := by omega
      obtain ⟨r, hr⟩ : ∃ r, rs[i]? = some r := ⟨rs[i]'(by rw [HL.out]; omega), List.getElem?_eq_getElem (by rw [HL.out]; omega)⟩
      have hmem := List.mem_of_getElem? hr
      have hrok := HOK.out r hmem
      have hst := find_step hr hno.out
      obtain ⟨b, o, rfl, hbw, hra⟩ := HR.out i r hr
      have HRa := Lib.hid hra
      have HF1 := Lib.hid fun h => HP2.out _ (hst.1 h)
      have HF2 := Lib.hid hst.2
      have hbs := hbl.size
      clear hno hst hr hmem hend hra
      go_wp2_with (with_reducible refine stop_load 68 rfl ?_)
      refine load_mid 68 (.tmp 22) rfl rfl (some 23) rfl b (o + i * 17) rfl r.cells.toArray (by exact rangeAt_below HRa.out hbl hbw) _ Try.underlying68 rfl infoR ?_
      go_wp2_with (with_reducible refine stop_store 68 rfl ?_)
      refine store_row 68 (.tmp 13) (.tmp 23) rfl rfl rfl wr.heap.size r.cells.toArray rfl rfl 68 zeroR.cells.toArray (heap_alloc_last wr _) infoR rfl (oneR _) ?_
      rw [World.setRow_alloc_new]
      have g1 : (wr.alloc (.cells r.cells.toArray 68)).heap[wr.heap.size]? = some (.cells r.cells.toArray 68 (0, 0)) := heap_alloc_last wr _
      have g2 := heap_under (o := .cells r.cells.toArray 68) hq.out
      have g3 := heap_under (o := .cells r.cells.toArray 68) hz.out
      have g4 : Below w.heap.size w (wr.alloc (.cells r.cells.toArray 68)) := hbl.alloc hbs _
      have G3 := Lib.hid g3
      have G4 := Lib.hid g4
      have hm2 : w.heap.size + 1 < wr.heap.size := by
        have := (Array.getElem?_eq_some_iff.1 hz.out).1
        exact this
      have hm3 : wr.heap.size < (wr.alloc (.cells r.cells.toArray 68)).heap.size := lt_of_last
      clear g3 g4 hq hz hbl hbs
      generalize wr.alloc (.cells r.cells.toArray 68) = W1 at *
      generalize wr.heap.size = m at *
      have d0 : W1.cell? ⟨m, 0, none⟩ = some (.int .i64 r.role) := by rw [cell_of_row _ _ _ _ _ _ g1]; rfl
      have d1 : W1.cell? ⟨m, 1, none⟩ = some (.int .i64 r.op) := by rw [cell_of_row _ _ _ _ _ _ g1]; rfl
      have d2 : W1.cell? ⟨m, 2, none⟩ = some (.int .i64 r.sk) := by rw [cell_of_row _ _ _ _ _ _ g1]; rfl
      have d3 : W1.cell? ⟨m, 3, none⟩ = some (.int .i64 r.ss) := by rw [cell_of_row _ _ _ _ _ _ g1]; rfl
      have d4 : W1.cell? ⟨m, 4, none⟩ = some (.string (B r.sl)) := by rw [cell_of_row _ _ _ _ _ _ g1]; rfl
      have d5 : W1.cell? ⟨m, 5, none⟩ = some (.int .u64 r.sn) := by rw [cell_of_row _ _ _ _ _ _ g1]; rfl
      have d6 : W1.cell? ⟨m, 6, none⟩ = some (.int .u64 r.sv) := by rw [cell_of_row _ _ _ _ _ _ g1]; rfl
      have d7 : W1.cell? ⟨m, 7, none⟩ = some (.int .i64 r.dk) := by rw [cell_of_row _ _ _ _ _ _ g1]; rfl
      have d8 : W1.cell? ⟨m, 8, none⟩ = some (.int .i64 r.ds) := by rw [cell_of_row _ _ _ _ _ _ g1]; rfl
      have d9 : W1.cell? ⟨m, 9, none⟩ = some (.string (B r.dl)) := by rw [cell_of_row _ _ _ _ _ _ g1]; rfl
      have d10 : W1.cell? ⟨m, 10, none⟩ = some (.int .u64 r.dn) := by rw [cell_of_row _ _ _ _ _ _ g1]; rfl
      have d11 : W1.cell? ⟨m, 11, none⟩ = some (.int .u64 r.dv) := by rw [cell_of_row _ _ _ _ _ _ g1]; rfl
      have d12 : W1.cell? ⟨m, 12, none⟩ = some (.int .i64 r.typ) := by rw [cell_of_row _ _ _ _ _ _ g1]; rfl
      have e2 : W1.cell? ⟨w.heap.size, 2, none⟩ = some (.int .i64 p.ds) := by rw [cell_of_row _ _ _ _ _ _ g2, ← HC.out]; rfl
      have e3 : W1.cell? ⟨w.heap.size, 3, none⟩ = some (.string (B p.dl)) := by rw [cell_of_row _ _ _ _ _ _ g2, ← HC.out]; rfl
      have e4 : W1.cell? ⟨w.heap.size, 4, none⟩ = some (.int .u64 p.dn) := by rw [cell_of_row _ _ _ _ _ _ g2, ← HC.out]; rfl
      have e5 : W1.cell? ⟨w.heap.size, 5, none⟩ = some (.int .u64 p.dv) := by rw [cell_of_row _ _ _ _ _ _ g2, ← HC.out]; rfl
      have e6 : W1.cell? ⟨w.heap.size, 6, none⟩ = some (.int .i64 p.ss) := by rw [cell_of_row _ _ _ _ _ _ g2, ← HC.out]; rfl
      have e7 : W1.cell? ⟨w.heap.size, 7, none⟩ = some (.string (B p.sl)) := by rw [cell_of_row _ _ _ _ _ _ g2, ← HC.out]; rfl
      have e8 : W1.cell? ⟨w.heap.size, 8, none⟩ = some (.int .u64 p.sn) := by rw [cell_of_row _ _ _ _ _ _ g2, ← HC.out]; rfl
      have e9 : W1.cell? ⟨w.heap.size, 9, none⟩ = some (.int .u64 p.sv) := by rw [cell_of_row _ _ _ _ _ _ g2, ← HC.out]; rfl
      have G1 := Lib.hid g1
      have G2 := Lib.hid g2
      have hms : w.heap.size < W1.heap.size := by omega
      have M1 := Lib.hid fun W => rMatch_any r.sk r.ss r.sl r.sn r.sv p.ss p.sl p.sn p.sv W HPO.out.2.1 hrok.1
      have M2 := Lib.hid fun W => rMatch_any r.dk r.ds r.dl r.dn r.dv p.ds p.dl p.dn p.dv W HPO.out.1 hrok.2.1
      have hfit : fitsB r role op typ p = (decide (r.role = role) && decide (r.op = op) && decide (r.typ = typ) && matchB r.sk r.ss r.sl r.sn r.sv p.ss p.sl p.sn p.sv && matchB r.dk r.ds r.dl r.dn r.dv p.ds p.dl p.dn p.dv) := rfl
      generalize matchB r.sk r.ss r.sl r.sn r.sv p.ss p.sl p.sn p.sv = m1 at *
      generalize matchB r.dk r.ds r.dl r.dn r.dv p.ds p.dl p.dn p.dv = m2 at *
      have HFIT := Lib.hid hfit
      clear hfit g1 g2 hrok
      cases m1
      · go_wp2_with fail
        · refine Calls.ext (M1.out _) fun u1 => ?_
          go_wp2
          go_round
          case rel => exact ⟨i + 1, by omega, by go_num, Lib.hid (HF2.out (by rw [HFIT.out]; simp)), Lib.hid (heap_ext G2.out), Lib.hid (heap_ext G3.out), Below.ext G4.out (by omega) _⟩
          case measure => simp [intOf]; omega
        all_goals
          go_round
          case rel => exact ⟨i + 1, by omega, by go_num, Lib.hid (HF2.out (by rw [HFIT.out]; simp [*])), G2, G3, G4.out⟩
          case measure => simp [intOf]; omega
      · cases m2
        · go_wp2_with fail
          · refine Calls.ext (M1.out _) fun u1 => ?_
            go_wp2_with fail
            refine Calls.ext (M2.out _) fun u2 => ?_
            go_wp2
            go_round
            case rel => exact ⟨i + 1, by omega, by go_num, Lib.hid (HF2.out (by rw [HFIT.out]; simp)), Lib.hid (heap_ext G2.out), Lib.hid (heap_ext G3.out), Below.ext G4.out (by omega) _⟩
            case measure => simp [intOf]; omega
          all_goals
            go_round
            case rel => exact ⟨i + 1, by omega, by go_num, Lib.hid (HF2.out (by rw [HFIT.out]; simp [*])), G2, G3, G4.out⟩
            case measure => simp [intOf]; omega
        · go_wp2_with fail
          · refine Calls.ext (M1.out _) fun u1 => ?_
            go_wp2_with fail
            refine Calls.ext (M2.out _) fun u2 => ?_
            have HRV := Lib.hid (HF1.out (by rw [HFIT.out]; simp [*]))
            go_wp2_with (with_reducible refine stop_load 68 rfl ?_)
            refine load_mid 68 (.tmp 13) rfl rfl (some 54) rfl m 0 rfl r.cells.toArray (rangeAt_row (heap_ext G1.out)) _ Try.underlying68 rfl infoR ?_
            go_wp2_with (with_reducible refine stop_store 68 rfl ?_)
            refine store_row 68 (.tmp 10) (.tmp 54) rfl rfl rfl (w.heap.size + 1) r.cells.toArray rfl rfl 68 zeroR.cells.toArray (heap_ext G3.out) infoR rfl (oneR _) ?_
            have H4 := Lib.hid (Below.setRow (c := r.cells.toArray) (Below.ext G4.out (by omega) (comb u1 u2)) (Nat.le_succ w.heap.size))
            have H3 := Lib.hid (heap_setRow_same (c' := r.cells.toArray) (heap_ext (u := comb u1 u2) G3.out))
            generalize (ext W1 (comb u1 u2)).setRow (w.heap.size + 1) r.cells.toArray = w3 at *
            go_wp2
            refine post_row_tmp (w.heap.size + 1) rfl 68 r.cells.toArray _ (.bool true) rfl rfl H3.out Try.underlying68 rfl infoR rfl ?_
            exact ⟨by rw [HRV.out]; rfl, H4.out⟩
          all_goals
            go_round
            case rel => exact ⟨i + 1, by omega, by go_num, Lib.hid (HF2.out (by rw [HFIT.out]; simp [*])), G2, G3, G4.out⟩
            case measure => simp [intOf]; omega
end Go.Proofs.Ythoickghfjgmmaa.Pol
