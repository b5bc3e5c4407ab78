/-
  The walks of policy: question.fits, first, Pick; and the reference's Pick: the first rule that fits.
  Conditions: names are no longer than the model lets them be; at most 20 rules.
-/
import Derived.Test.YthoickghfjgmmaaPol
import Derived.Test.YthoickghfjgmmaaRef10c
import Derived.Test.YthoickghfjgmmaaStp
namespace Go.Proofs.Ythoickghfjgmmaa.Pol
open Go.ChangeShapes Go.WideShapes Go.ChangeAt Go.RowKit Go.Proofs.Ythoickghfjgmmaa.Eid
def quesCells (role op typ : Int) (p : PrimB) : List Value := .int .i64 role :: .int .i64 op :: .int .i64 typ :: p.cells
set_option maxHeartbeats 1600000 in
set_option maxRecDepth 100000 in
theorem fits_any (r : RuleB) (role op typ : Int) (p : PrimB) (w : World) (hr : r.ok) (hp : p.ok) :
    Calls Try.prog 69 #[.agg (quesCells role op typ p).toArray, .agg r.cells.toArray] w fun e w' => e = .returned (.bool (fitsB r role op typ p)) ∧ Below w.heap.size w w' := by
  obtain ⟨a0, a1, a2, a3, a4, a5, a6, a7, a8, a9, a10, a11, a12, a13, a14, a15, a16⟩ := r
  obtain ⟨b0, b1, b2, b3, b4, b5, b6, b7, b8, b9, b10, b11, b12, b13, b14, b15, b16, b17, b18⟩ := p
  obtain ⟨h1, h2, _⟩ := hr
  obtain ⟨h3, h4, _⟩ := hp
  have M1 := fun W => Match_any a2 a3 a4 a5 a6 b6 b7 b8 b9 W h4 h1
  have M2 := fun W => Match_any a7 a8 a9 a10 a11 b2 b3 b4 b5 W h3 h2
  unfold fitsB
  simp only [quesCells, RuleB.cells, PrimB.cells]
  generalize matchB a2 a3 a4 a5 a6 b6 b7 b8 b9 = m1 at *
  generalize matchB a7 a8 a9 a10 a11 b2 b3 b4 b5 = m2 at *
  clear h1 h2 h3 h4
  have M1' := Lib.hid M1
  have M2' := Lib.hid M2
  clear M1 M2
  cases m1
  · go_enter Try.func69, Try.ntmps69
    go_wp2_with fail
    · refine Calls.ext (M1'.out _) fun u1 => ?_
      go_wp2
      go_ret
      exact ⟨ret_bool (by simp [*]), by ((repeat' (with_reducible first | exact Below.refl _ _ | assumption | refine Below.drew ?_ | refine below_drewN ?_ _ | refine Below.setCell ?_ ?_ _ | refine Below.alloc ?_ ?_ _ | refine Below.ext ?_ ?_ _ | refine Below.trans ?_ (Below.mono ‹_› ?_))) <;> first | omega | (simp; done) | (simp; omega))⟩
    all_goals
      go_ret
      exact ⟨ret_bool (by simp [*]), by ((repeat' (with_reducible first | exact Below.refl _ _ | assumption | refine Below.drew ?_ | refine below_drewN ?_ _ | refine Below.setCell ?_ ?_ _ | refine Below.alloc ?_ ?_ _ | refine Below.ext ?_ ?_ _ | refine Below.trans ?_ (Below.mono ‹_› ?_))) <;> first | omega | (simp; done) | (simp; omega))⟩
  · go_enter Try.func69, Try.ntmps69
    go_wp2_with fail
    · refine Calls.ext (M1'.out _) fun u1 => ?_
      go_wp2_with fail
      refine Calls.ext (M2'.out _) fun u2 => ?_
      go_wp2
      go_ret
      exact ⟨ret_bool (by simp [*]), by ((repeat' (with_reducible first | exact Below.refl _ _ | assumption | refine Below.drew ?_ | refine below_drewN ?_ _ | refine Below.setCell ?_ ?_ _ | refine Below.alloc ?_ ?_ _ | refine Below.ext ?_ ?_ _ | refine Below.trans ?_ (Below.mono ‹_› ?_))) <;> first | omega | (simp; done) | (simp; omega))⟩
    all_goals
      go_ret
      exact ⟨ret_bool (by simp [*]), by ((repeat' (with_reducible first | exact Below.refl _ _ | assumption | refine Below.drew ?_ | refine below_drewN ?_ _ | refine Below.setCell ?_ ?_ _ | refine Below.alloc ?_ ?_ _ | refine Below.ext ?_ ?_ _ | refine Below.trans ?_ (Below.mono ‹_› ?_))) <;> first | omega | (simp; done) | (simp; omega))⟩
theorem RulesAt.form {w : World} {v : Value} {rs : List RuleB} (h : RulesAt w v rs) : ∃ a c, v = .slice a rs.length c ∧ ∀ i r, rs[i]? = some r → ∃ b o, a = some ⟨b, o, none⟩ ∧ b < w.heap.size ∧ w.rangeAt b (o + i * 17) r.cells := by
  obtain ⟨⟨hm, a, c, rfl, hl, hc, hx⟩, hok⟩ := h
  refine ⟨a, c, by rw [List.length_map], fun i r hi => ?_⟩
  rcases hx with hx | ⟨b, o, rfl, hb, hx⟩
  · rw [List.map_eq_nil_iff] at hx; subst hx; simp at hi
  · refine ⟨b, o, rfl, hb, fun j u hj => ?_⟩
    have := hx i r.cells (by rw [List.getElem?_map, hi]; rfl) j u hj
    rw [Nat.add_assoc]
    exact this
theorem infoR : (Try.prog.info? 68).map (·.size) = some 17 := by kernel_rfl
theorem infoQ : (Try.prog.info? 108).map (·.size) = some 22 := by kernel_rfl
theorem oneR (r : RuleB) : r.cells.toArray.all (·.oneCell') = true := by simp [RuleB.cells, Value.oneCell']
theorem find_step {rs : List RuleB} {i : Nat} {r : RuleB} {f : RuleB → Bool} (hi : rs[i]? = some r) (h : (rs.take i).find? f = none) : (f r = true → rs.find? f = some r) ∧ (f r = false → (rs.take (i + 1)).find? f = none) := by
  have hl : i < rs.length := (List.getElem?_eq_some_iff.1 hi).1
  constructor
  · intro hf
    rw [← List.take_append_drop i rs, List.find?_append, h, Option.none_or, List.drop_eq_getElem_cons hl]
    rw [List.getElem?_eq_getElem hl] at hi
    rw [Option.some.inj hi, List.find?_cons_of_pos hf]
  · intro hf
    rw [List.take_add_one, hi, List.find?_append, h]
    simp [hf]
set_option maxHeartbeats 1600000 in
set_option maxRecDepth 100000 in
theorem first_any (v : Value) (rs : List RuleB) (role op typ : Int) (p : PrimB) (w : World) (hv : RulesAt w v rs) (hn : rs.length ≤ 1000) (hp : p.ok) :
    Calls Try.prog 68 #[v, .agg (quesCells role op typ p).toArray, .func (Fn.func 69) #[] #[]] w fun e w' => e = .returned (pickV (pickB rs role op typ p)) ∧ Below w.heap.size w w' := by
  have hok := hv.2
  obtain ⟨a, c, rfl, hR⟩ := hv.form
  clear hv
  obtain ⟨n, hl⟩ : ∃ n, rs.length = n := ⟨_, rfl⟩
  rw [hl] at hn
  rw [hl]
  have HF := Lib.hid fun (r : RuleB) (hr : r ∈ rs) (W : World) => fits_any r role op typ p W (hok r hr) hp
  have HR := Lib.hid hR
  have HL := Lib.hid hl
  have hqs : (quesCells role op typ p).toArray.size = 22 := rfl
  obtain ⟨Q, hQ⟩ : ∃ Q, (quesCells role op typ p).toArray = Q := ⟨_, rfl⟩
  rw [hQ] at hqs
  have HS := Lib.hid hqs
  rw [hQ] at HF
  have HP : ∀ f, pickB rs role op typ p = f → pickV (pickB rs role op typ p) = pickV f := fun f h => by rw [h]
  obtain ⟨R, hP⟩ : ∃ R, pickV (pickB rs role op typ p) = R := ⟨_, rfl⟩
  rw [hP] at HP
  have HP2 := Lib.hid HP
  rw [hQ, hP]
  clear hQ hP hR hl hok hqs HP
  go_enter Try.func68, Try.ntmps68
  go_wp2_with fail
  go_loopw [12] (fun s12 wr => ∃ i : Nat, i ≤ n ∧ s12 = .int .i64 (i : Int) ∧ Hid ((rs.take i).find? (fun r => fitsB r role op typ p) = none) ∧ Hid (wr.heap[w.heap.size]? = some (.cells Q 108 (0, 0))) ∧ Hid (wr.heap[w.heap.size + 1]? = some (.cells zeroR.cells.toArray 68 (0, 0))) ∧ Below w.heap.size w wr) (fun s _ => n - (intOf s).toNat)
  case atStart =>
    refine ⟨0, by omega, rfl, Lib.hid rfl, ?_, ?_, by ((repeat' (with_reducible first | exact Below.refl _ _ | assumption | refine Below.drew ?_ | refine below_drewN ?_ _ | refine Below.setCell ?_ ?_ _ | refine Below.alloc ?_ ?_ _ | refine Below.ext ?_ ?_ _ | refine Below.trans ?_ (Below.mono ‹_› ?_))) <;> first | omega | (simp; done) | (simp; omega))⟩
    · exact Lib.hid (heap_under (heap_alloc_last w _))
    · exact Lib.hid (heap_at (by show (w.heap.push _).size = _; simp))
  case round =>
    obtain ⟨i, hi, rfl, hno, hq, hz, hbl⟩ := hrel
    by_cases hend : i = n
    · have hlt : ¬ (i : Int) < (n : Int) := by omega
      have hpk : pickB rs role op typ p = none := by
        have := hno.out
        rw [hend, ← HL.out, List.take_length] at this
        exact this
      have HRV := Lib.hid (HP2.out _ hpk)
      clear hend hpk hno
      go_wp2_with (with_reducible refine stop_store 68 rfl ?_)
      refine store_row 68 (.tmp 6) (.tmp 22) rfl rfl rfl (w.heap.size + 1) zeroR.cells.toArray rfl rfl 68 zeroR.cells.toArray hz.out infoR rfl (oneR _) ?_
      rw [setRow_same _ _ _ _ _ hz.out]
      go_wp2
      refine post_row_tmp (w.heap.size + 1) rfl 68 zeroR.cells.toArray _ (.bool false) rfl rfl hz.out Try.underlying68 rfl infoR rfl ?_
      exact ⟨by rw [HRV.out]; rfl, hbl⟩
    · have hlt : (i : Int) < (n : Int) := by omega
      obtain ⟨r, hr⟩ : ∃ r, rs[i]? = some r := ⟨rs[i]'(by rw [HL.out]; omega), List.getElem?_eq_getElem (by rw [HL.out]; omega)⟩
      have hmem := List.mem_of_getElem? hr
      have HC := Lib.hid fun (W : World) => HF.out r hmem W
      have hst := find_step hr hno.out
      obtain ⟨b, o, rfl, hbw, hra⟩ := HR.out i r hr
      have HRa := Lib.hid hra
      have HF1 := Lib.hid fun h => HP2.out _ (hst.1 h)
      have HF2 := Lib.hid hst.2
      obtain ⟨C, hC⟩ : ∃ C, r.cells.toArray = C := ⟨_, rfl⟩
      have hCs : C.size = 17 := by rw [← hC]; rfl
      have hC1 : C.all (·.oneCell') = true := by rw [← hC]; exact oneR r
      have hCl : C.toList = r.cells := by rw [← hC]
      have HC17 := Lib.hid hCs
      have HC1 := Lib.hid hC1
      have HCl := Lib.hid hCl
      have HCe := Lib.hid hC
      rw [hC] at HC
      have hbs := hbl.size
      clear hno hst hC hCs hC1 hCl hr hmem hend hra
      go_wp2_with (with_reducible refine stop_load 68 rfl ?_)
      refine load_mid 68 (.tmp 14) rfl rfl (some 15) rfl b (o + i * 17) rfl C (by rw [HCl.out]; exact rangeAt_below HRa.out hbl hbw) _ Try.underlying68 rfl (by rw [HC17.out]; exact infoR) ?_
      go_wp2_with (with_reducible refine stop_store 68 rfl ?_)
      refine store_row 68 (.tmp 9) (.tmp 15) rfl rfl rfl wr.heap.size C rfl rfl 68 zeroR.cells.toArray (heap_alloc_last wr _) (by rw [HC17.out]; exact infoR) (by rw [HC17.out]; rfl) HC1.out ?_
      rw [World.setRow_alloc_new]
      have g1 : (wr.alloc (.cells C 68)).heap[wr.heap.size]? = some (.cells C 68 (0, 0)) := heap_alloc_last wr _
      have g2 := heap_under (o := .cells C 68) hq.out
      have g3 := heap_under (o := .cells C 68) hz.out
      have g4 : Below w.heap.size w (wr.alloc (.cells C 68)) := hbl.alloc hbs _
      have G1 := Lib.hid g1
      have G2 := Lib.hid g2
      have G3 := Lib.hid g3
      have G4 := Lib.hid g4
      have hm2 : w.heap.size + 1 < wr.heap.size := by
        have := (Array.getElem?_eq_some_iff.1 hz.out).1
        exact this
      have hm3 : wr.heap.size < (wr.alloc (.cells C 68)).heap.size := lt_of_last
      clear g1 g2 g3 g4 hq hz hbl hbs
      generalize wr.alloc (.cells C 68) = W1 at *
      generalize wr.heap.size = m at *
      go_wp2_with (with_reducible refine stop_load 108 rfl ?_)
      refine load_mid 108 (.tmp 4) rfl rfl (some 17) rfl w.heap.size 0 rfl Q (rangeAt_row G2.out) _ Try.underlying108 rfl (by rw [HS.out]; exact infoQ) ?_
      go_wp2_with (with_reducible refine stop_load 68 rfl ?_)
      refine load_mid 68 (.tmp 9) rfl rfl (some 18) rfl m 0 rfl C (rangeAt_row G1.out) _ Try.underlying68 rfl (by rw [HC17.out]; exact infoR) ?_
      go_wp2_with fail
      refine (HC.out _).mono ?_
      rintro e w2 ⟨rfl, hb2⟩
      have G1' := Lib.hid (heap_below hb2 hm3 G1.out)
      have G3' := Lib.hid (heap_below hb2 (by omega) G3.out)
      have G2' := Lib.hid (heap_below hb2 (by omega) G2.out)
      have G4' := Lib.hid (G4.out.trans (hb2.mono (by omega)))
      clear G1 G2 G3 G4 hb2
      generalize hf : fitsB r role op typ p = f at *
      cases f with
      | true =>
        have HRV := Lib.hid (HF1.out rfl)
        go_wp2_with (with_reducible refine stop_load 68 rfl ?_)
        refine load_mid 68 (.tmp 9) rfl rfl (some 20) rfl m 0 rfl C (rangeAt_row G1'.out) _ Try.underlying68 rfl (by rw [HC17.out]; exact infoR) ?_
        go_wp2_with (with_reducible refine stop_store 68 rfl ?_)
        refine store_row 68 (.tmp 6) (.tmp 20) rfl rfl rfl (w.heap.size + 1) C rfl rfl 68 zeroR.cells.toArray G3'.out (by rw [HC17.out]; exact infoR) (by rw [HC17.out]; rfl) HC1.out ?_
        have H4 := Lib.hid (Below.setRow (c := C) G4'.out (Nat.le_succ w.heap.size))
        have H3 := Lib.hid (heap_setRow_same (c' := C) G3'.out)
        generalize w2.setRow (w.heap.size + 1) C = w3 at *
        go_wp2
        refine post_row_tmp (w.heap.size + 1) rfl 68 C _ (.bool true) rfl rfl H3.out Try.underlying68 rfl (by rw [HC17.out]; exact infoR) rfl ?_
        exact ⟨by rw [HRV.out, ← HCe.out]; rfl, H4.out⟩
      | false =>
        have HNX := Lib.hid (HF2.out rfl)
        go_wp2
        go_round
        case rel => exact ⟨i + 1, by omega, by go_num, HNX, G2', G3', G4'.out⟩
        case measure => simp [intOf]; omega
theorem pickV_form (f : Option RuleB) : ∃ (R : Array Value) (k : Bool), pickV f = .tuple #[.agg R, .bool k] ∧ R.size = 17 ∧ R.all (·.oneCell') = true := by
  cases f with
  | none => exact ⟨_, _, rfl, rfl, oneR _⟩
  | some r => exact ⟨_, _, rfl, rfl, oneR _⟩
theorem infoP : (Try.prog.info? 59).map (·.size) = some 19 := by kernel_rfl
theorem RulesAt.below {W w' : World} {v : Value} {rs : List RuleB} {n : Nat} (h : RulesAt W v rs) (hb : Below n W w') (hn : W.heap.size ≤ n) : RulesAt w' v rs := ⟨h.1.below hb hn, h.2⟩
set_option maxHeartbeats 1600000 in
set_option maxRecDepth 100000 in
theorem Pick_any (v : Value) (rs : List RuleB) (role op typ : Int) (p : PrimB) (w : World) (hv : RulesAt w v rs) (hn : rs.length ≤ 1000) (hp : p.ok) :
    Calls Try.prog 35 #[v, .int .i64 role, .int .i64 op, .agg p.cells.toArray, .int .i64 typ] w fun e w' => e = .returned (pickV (pickB rs role op typ p)) ∧ Below w.heap.size w w' := by
  have HF : ∀ W, RulesAt W v rs → _ := fun (W : World) (hb : RulesAt W v rs) => first_any v rs role op typ p W hb hn hp
  obtain ⟨R, k, hR, hRs, hR1⟩ := pickV_form (pickB rs role op typ p)
  rw [hR] at HF
  rw [hR]
  have HF := Lib.hid HF
  have HR17 := Lib.hid hRs
  have HR1 := Lib.hid hR1
  clear hR hRs hR1
  have HV := Lib.hid hv
  clear hv hn hp
  have hps : p.cells.toArray.size = 19 := rfl
  have hbt : Try.prog.built 108 [(0, .int .i64 role), (1, .int .i64 op), (2, .int .i64 typ), (3, .agg p.cells.toArray)] = some (quesCells role op typ p).toArray := by kernel_rfl
  obtain ⟨C, hC⟩ : ∃ C, p.cells.toArray = C := ⟨_, rfl⟩
  obtain ⟨Q, hQ⟩ : ∃ Q, (quesCells role op typ p).toArray = Q := ⟨_, rfl⟩
  rw [hC] at hbt hps
  rw [hQ] at hbt HF
  rw [hC]
  have HB := Lib.hid hbt
  have HS := Lib.hid hps
  clear hbt hps hC hQ
  go_enter Try.func35, Try.ntmps35
  go_wp2_with (with_reducible refine stop_load 59 rfl ?_)
  have g1 : ((w.alloc (.cells C 59)).alloc (.cells #[.int .i64 0, .int .i64 0, .int .i64 0, .int .i64 0, .string ⟨#[]⟩, .int .u64 0, .int .u64 0, .int .i64 0, .int .i64 0, .string ⟨#[]⟩, .int .u64 0, .int .u64 0, .int .i64 0, .int .i64 0, .int .i64 0, .int .i64 0, .int .i64 0] 68)).heap[w.heap.size]? = some (.cells C 59 (0, 0)) := heap_under (heap_alloc_last w _)
  have g2 : ((w.alloc (.cells C 59)).alloc (.cells #[.int .i64 0, .int .i64 0, .int .i64 0, .int .i64 0, .string ⟨#[]⟩, .int .u64 0, .int .u64 0, .int .i64 0, .int .i64 0, .string ⟨#[]⟩, .int .u64 0, .int .u64 0, .int .i64 0, .int .i64 0, .int .i64 0, .int .i64 0, .int .i64 0] 68)).heap[w.heap.size + 1]? = some (.cells zeroR.cells.toArray 68 (0, 0)) := heap_at (by show (w.heap.push _).size = _; simp)
  have g3 : Below w.heap.size w ((w.alloc (.cells C 59)).alloc (.cells #[.int .i64 0, .int .i64 0, .int .i64 0, .int .i64 0, .string ⟨#[]⟩, .int .u64 0, .int .u64 0, .int .i64 0, .int .i64 0, .string ⟨#[]⟩, .int .u64 0, .int .u64 0, .int .i64 0, .int .i64 0, .int .i64 0, .int .i64 0, .int .i64 0] 68)) := by ((repeat' (with_reducible first | exact Below.refl _ _ | assumption | refine Below.drew ?_ | refine below_drewN ?_ _ | refine Below.setCell ?_ ?_ _ | refine Below.alloc ?_ ?_ _ | refine Below.ext ?_ ?_ _ | refine Below.trans ?_ (Below.mono ‹_› ?_))) <;> first | omega | (simp; done) | (simp; omega))
  have g4 : w.heap.size + 1 < ((w.alloc (.cells C 59)).alloc (.cells #[.int .i64 0, .int .i64 0, .int .i64 0, .int .i64 0, .string ⟨#[]⟩, .int .u64 0, .int .u64 0, .int .i64 0, .int .i64 0, .string ⟨#[]⟩, .int .u64 0, .int .u64 0, .int .i64 0, .int .i64 0, .int .i64 0, .int .i64 0, .int .i64 0] 68)).heap.size := (Array.getElem?_eq_some_iff.1 g2).1
  have hv1 := HV.out.below g3 (Nat.le_refl _)
  refine load_mid 59 (.tmp 8) rfl rfl (some 16) rfl w.heap.size 0 rfl C (rangeAt_row g1) _ Try.underlying59 rfl (by rw [HS.out]; exact infoP) ?_
  clear HV g1
  have G2 := Lib.hid g2
  have G3 := Lib.hid g3
  have HC := Lib.hid (HF.out _ hv1)
  clear g2 g3 hv1
  generalize hW1 : (w.alloc (.cells C 59)).alloc (.cells #[.int .i64 0, .int .i64 0, .int .i64 0, .int .i64 0, .string ⟨#[]⟩, .int .u64 0, .int .u64 0, .int .i64 0, .int .i64 0, .string ⟨#[]⟩, .int .u64 0, .int .u64 0, .int .i64 0, .int .i64 0, .int .i64 0, .int .i64 0, .int .i64 0] 68) = W1 at *
  clear hW1
  refine wpList_buildTo rfl 108 _ rfl (some 17) rfl Q (Eq.trans (congrArg (Program.built Try.prog 108) (by kernel_rfl)) HB.out) ?_
  go_wp2_with fail
  refine HC.out.mono ?_
  rintro e w2 ⟨rfl, hb2⟩
  have G2' := Lib.hid (heap_below hb2 g4 G2.out)
  have G3' := Lib.hid (G3.out.trans (hb2.mono (by omega)))
  clear G2 G3 hb2 HC HF
  go_wp2_with (with_reducible refine stop_store 68 rfl ?_)
  refine store_row 68 (.tmp 10) (.tmp 19) rfl rfl rfl (w.heap.size + 1) R rfl rfl 68 zeroR.cells.toArray G2'.out (by rw [HR17.out]; exact infoR) (by rw [HR17.out]; rfl) HR1.out ?_
  have H4 := Lib.hid (Below.setRow (c := R) G3'.out (Nat.le_succ w.heap.size))
  have H3 := Lib.hid (heap_setRow_same (c' := R) G2'.out)
  generalize w2.setRow (w.heap.size + 1) R = w3 at *
  go_wp2
  refine post_row_tmp (w.heap.size + 1) rfl 68 R _ (.bool k) rfl rfl H3.out Try.underlying68 rfl (by rw [HR17.out]; exact infoR) rfl ?_
  exact ⟨rfl, H4.out⟩
end Go.Proofs.Ythoickghfjgmmaa.Pol
