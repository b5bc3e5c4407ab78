/-
  The ideal engine: holds, open; what the law EngineOnly asks of the reference.
  Conditions: an ideal engine with a table that is known.
-/
import Derived.Test.YtlbpodddokhmaaaGreatEngX
namespace Go.Proofs.YtlbpodddokhmaaaGreat.EngX
open Go.ChangeShapes Go.WideShapes Go.ChangeAt Go.RowKit Go.Deep Go.Great Go.Proofs.YtlbpodddokhmaaaGreat.Eng
structure Ent where
  vr : Int
  k : List UInt8
  nn : List UInt8
  wt : List UInt8
  t : List UInt8
  m : List UInt8
  tg : List UInt8
def Ent.cells (e : Ent) : List Value := [.int .i64 e.vr, .string (B e.k), .string (B e.nn), .string (B e.wt), .string (B e.t), .string (B e.m), .string (B e.tg)]
theorem runEqE {o : Oper} {a : Act} {w : World} (x y : Operand) (tp : TypeId) (ho : o.op = .binOp .eql 203 x y tp) (v1 v2 : Int) (a1 a2 a3 a4 a5 a6 b1 b2 b3 b4 b5 b6 : List UInt8)
    (hx : a.eval x = .agg #[.int .i64 v1, .string (B a1), .string (B a2), .string (B a3), .string (B a4), .string (B a5), .string (B a6)]) (hy : a.eval y = .agg #[.int .i64 v2, .string (B b1), .string (B b2), .string (B b3), .string (B b4), .string (B b5), .string (B b6)]) :
    (execOp a.eval o).run Tryz.prog w = .ok (.value (.bool (decide (v1 = v2 ∧ a1 = b1 ∧ a2 = b2 ∧ a3 = b3 ∧ a4 = b4 ∧ a5 = b5 ∧ a6 = b6)))) w := by
  unfold execOp
  simp only [ho, hx, hy]
  go_simp
  (repeat' split) <;> simp_all [B_inj]
theorem stop_eql {P : Program} {ops : Array Oper} {rest : List Oper} {o : Oper} {a : Act} {w : World} {Q : Exit → Act → World → Prop} {x y : Operand} {tp : TypeId} (_ : o.op = .binOp .eql 203 x y tp) (h : RowKit.Hid (wpList P ops Q (o :: rest) a w)) : wpList P ops Q (o :: rest) a w := h.out
theorem wpList_val {P : Program} {ops : Array Oper} {rest : List Oper} {o : Oper} {a : Act} {w : World} {Q : Exit → Act → World → Prop} (hgd : o.guard = none) (dst : Option Tmp) (hdst : o.dst = dst) (v : Value) (hrun : (execOp a.eval o).run P w = .ok (.value v) w) (h : wpList P ops Q rest (a.put dst v) w) : wpList P ops Q (o :: rest) a w := by
  refine wpList_plain hgd fun K hK => ?_
  unfold Oper.wp
  rw [hrun]
  subst hdst
  exact hK _ _ h
/-- A table that is known. -/
def TabE (w : World) (base ib : Nat) (v : Value) (es : List Ent) : Prop := TabAt w base ib v es.length (es.flatMap Ent.cells)
theorem flat_get (es : List Ent) (i j : Nat) (e : Ent) (he : es[i]? = some e) (hj : j < 7) : (es.flatMap Ent.cells)[i * 7 + j]? = e.cells[j]? := by
  induction es generalizing i with
  | nil => simp at he
  | cons a es ih =>
    rw [List.flatMap_cons]
    cases i with
    | zero =>
      simp only [List.getElem?_cons_zero, Option.some.injEq] at he
      subst he
      rw [List.getElem?_append_left (by simp [Ent.cells]; omega)]
      congr 1
      omega
    | succ i =>
      have hl : a.cells.length = 7 := rfl
      rw [List.getElem?_append_right (by rw [hl]; omega), hl, show (i + 1) * 7 + j - 7 = i * 7 + j by omega]
      exact ih i (by simpa using he)
theorem TabE.cell {w : World} {base ib : Nat} {v : Value} {es : List Ent} (h : TabE w base ib v es) (h0 : 0 < es.length) : ∃ g cap, v = .slice (some ⟨g, 0, none⟩) es.length cap ∧ g < w.heap.size ∧ ∀ i j e u, es[i]? = some e → j < 7 → e.cells[j]? = some u → w.cell? ⟨g, i * 7 + j, none⟩ = some u := by
  obtain ⟨_, hown⟩ := h
  obtain ⟨g, cap, hf, hg, hgl⟩ := hown.form h0
  subst hf
  refine ⟨g, cap, rfl, hgl, fun i j e u he hj hu => ?_⟩
  have hil : i < es.length := by
    have := (List.getElem?_eq_some_iff.1 he).1
    exact this
  rw [hown.cellAt (i * 7 + j) (by omega), flat_get es i j e he hj]
  exact hu
def matchH (vr : Int) (key t tag : List UInt8) (e : Ent) : Bool := decide (e.vr = vr ∧ e.k = key ∧ e.nn = [] ∧ e.wt = [] ∧ e.t = t ∧ e.m = [] ∧ e.tg = tag)
set_option maxHeartbeats 1600000 in
set_option maxRecDepth 100000 in
theorem iholds_any (base ib : Nat) (v : Value) (es : List Ent) (vr : Int) (key t tag : List UInt8) (w : World) (hT : TabE w base ib v es) (h0 : 0 < es.length) (hn : es.length ≤ 1000) :
    Calls Tryz.prog 152 #[.pointer (some ⟨ib, 0, none⟩), .int .i64 vr, .string (B key), .string (B t), .string (B tag)] w fun e w' => e = .returned (.bool (es.any (matchH vr key t tag))) ∧ Below w.heap.size w w' := by
  obtain ⟨g, cap, hf, hgl, hcell⟩ := hT.cell h0
  have hc0 : w.cell? ⟨ib, 0, none⟩ = some v := by rw [cell_of_row _ _ _ _ _ _ hT.1]; rfl
  subst hf
  obtain ⟨n, hl⟩ : ∃ n, es.length = n := ⟨_, rfl⟩
  rw [hl] at hc0 hn
  have HC := Lib.hid hcell
  have HL := Lib.hid hl
  clear hcell hT h0 hl
  go_enter Tryz.func152, Tryz.ntmps152
  go_wp2
  go_loopw [18] (fun s18 wr => ∃ i : Nat, i ≤ n ∧ s18 = .int .i64 (i : Int) ∧ (es.take i).any (matchH vr key t tag) = false ∧ Below w.heap.size w wr) (fun s _ => n - (intOf s).toNat)
  case atStart => exact ⟨0, by omega, rfl, by simp, Below.refl _ _⟩
  case round =>
    obtain ⟨i, hi, rfl, hno, hb⟩ := hrel
    by_cases hend : i = n
    · have hlt : ¬ (i : Int) < (n : Int) := by omega
      have hall : es.any (matchH vr key t tag) = false := by
        rw [hend, ← HL.out, List.take_length] at hno; exact hno
      have HALL := Lib.hid hall
      clear hall hend hno
      go_wp2
      go_ret
      exact ⟨by rw [HALL.out]; rfl, hb⟩
    · have hlt : (i : Int) < (n : Int) := by omega
      obtain ⟨e, he⟩ : ∃ e, es[i]? = some e := ⟨es[i]'(by rw [HL.out]; omega), List.getElem?_eq_getElem (by rw [HL.out]; omega)⟩
      have hcs : ∀ j u, j < 7 → e.cells[j]? = some u → wr.cell? ⟨g, i * 7 + j, none⟩ = some u := fun j u hj hu => by
        rw [hb.cell (p := ⟨g, i * 7 + j, none⟩) hgl]; exact HC.out i j e u he hj hu
      have d0 := hcs 0 _ (by omega) rfl
      rw [Nat.add_zero] at d0
      have d1 := hcs 1 _ (by omega) rfl
      have d2 := hcs 2 _ (by omega) rfl
      have d3 := hcs 3 _ (by omega) rfl
      have d4 := hcs 4 _ (by omega) rfl
      have d5 := hcs 5 _ (by omega) rfl
      have d6 := hcs 6 _ (by omega) rfl
      have hm : matchH vr key t tag e = decide (e.vr = vr ∧ e.k = key ∧ e.nn = [] ∧ e.wt = [] ∧ e.t = t ∧ e.m = [] ∧ e.tg = tag) := rfl
      have HM := Lib.hid hm
      have HE := Lib.hid he
      have hbw := hb.size
      obtain ⟨ev, ek, en, ew, et, em, eg⟩ := e
      simp only at d0 d1 d2 d3 d4 d5 d6 HM
      clear hcs hm he
      go_wp2_with (with_reducible refine stop_eql rfl ?_)
      refine Lib.hid ?_
      refine wpList_val rfl (some 28) rfl (.bool (decide (ev = vr ∧ ek = key ∧ en = [] ∧ ew = [] ∧ et = t ∧ em = [] ∧ eg = tag))) ?_ ?_
      · exact runEqE (.tmp 22) (.tmp 27) _ rfl ev vr ek en ew et em eg key [] [] t [] tag rfl rfl
      rw [← HM.out]
      have hbN : Below w.heap.size w (wr.alloc (.cells #[.int .i64 ev, .string (B ek), .string (B en), .string (B ew), .string (B et), .string (B em), .string (B eg)] 203)) := hb.alloc hbw _
      have hnx : (es.take (i + 1)).any (matchH vr key t tag) = ((es.take i).any (matchH vr key t tag) || matchH vr key t tag ⟨ev, ek, en, ew, et, em, eg⟩) := by
        rw [List.take_add_one, List.any_append, HE.out]
        simp
      rw [hno, Bool.false_or] at hnx
      have hany : matchH vr key t tag ⟨ev, ek, en, ew, et, em, eg⟩ = true → es.any (matchH vr key t tag) = true := fun h => List.any_eq_true.2 ⟨_, List.mem_of_getElem? HE.out, h⟩
      clear d0 d1 d2 d3 d4 d5 d6
      generalize wr.alloc (.cells #[.int .i64 ev, .string (B ek), .string (B en), .string (B ew), .string (B et), .string (B em), .string (B eg)] 203) = W2 at *
      generalize matchH vr key t tag ⟨ev, ek, en, ew, et, em, eg⟩ = b at *
      cases b with
      | true =>
        have HANY := Lib.hid (hany rfl)
        clear hany hnx hno
        go_wp2
        go_ret
        exact ⟨by rw [HANY.out]; rfl, hbN⟩
      | false =>
        have HNX := Lib.hid hnx
        clear hany hnx hno
        go_wp2
        go_round
        case rel => exact ⟨i + 1, by omega, by go_num, HNX.out, hbN⟩
        case measure => simp [intOf]; omega
def matchO (vr : Int) (key nonce wth made tag : List UInt8) (e : Ent) : Bool := decide (e.vr = vr ∧ e.k = key ∧ e.nn = nonce ∧ e.wt = wth ∧ e.m = made ∧ e.tg = tag)
theorem matchO_eq (vr ev : Int) (key nonce wth made tag ek en ew et em eg : List UInt8) : decide (ev = vr ∧ ek = key ∧ en = nonce ∧ ew = wth ∧ ([] : List UInt8) = [] ∧ em = made ∧ eg = tag) = matchO vr key nonce wth made tag ⟨ev, ek, en, ew, et, em, eg⟩ := by simp [matchO]
def foundO (f : Option Ent) : Value := match f with | some e => .tuple #[.string (B e.t), .bool true] | none => .tuple #[.string (B []), .bool false]
set_option maxHeartbeats 1600000 in
set_option maxRecDepth 100000 in
theorem iopen_any (base ib : Nat) (v : Value) (es : List Ent) (vr : Int) (key nonce wth made tag : List UInt8) (w : World) (hT : TabE w base ib v es) (h0 : 0 < es.length) (hn : es.length ≤ 1000) :
    Calls Tryz.prog 153 #[.pointer (some ⟨ib, 0, none⟩), .int .i64 vr, .string (B key), .string (B nonce), .string (B wth), .string (B made), .string (B tag)] w fun e w' => e = .returned (foundO (es.find? (matchO vr key nonce wth made tag))) ∧ Below w.heap.size w w' := by
  obtain ⟨g, cap, hf, hgl, hcell⟩ := hT.cell h0
  have hc0 : w.cell? ⟨ib, 0, none⟩ = some v := by rw [cell_of_row _ _ _ _ _ _ hT.1]; rfl
  subst hf
  obtain ⟨n, hl⟩ : ∃ n, es.length = n := ⟨_, rfl⟩
  rw [hl] at hc0 hn
  have HC := Lib.hid hcell
  have HL := Lib.hid hl
  clear hcell hT h0 hl
  go_enter Tryz.func153, Tryz.ntmps153
  go_wp2
  go_loopw [24] (fun s18 wr => ∃ i : Nat, i ≤ n ∧ s18 = .int .i64 (i : Int) ∧ (es.take i).find? (matchO vr key nonce wth made tag) = none ∧ Below w.heap.size w wr) (fun s _ => n - (intOf s).toNat)
  case atStart => exact ⟨0, by omega, rfl, rfl, Below.refl _ _⟩
  case round =>
    obtain ⟨i, hi, rfl, hno, hb⟩ := hrel
    by_cases hend : i = n
    · have hlt : ¬ (i : Int) < (n : Int) := by omega
      have hall : es.find? (matchO vr key nonce wth made tag) = none := by
        rw [hend, ← HL.out, List.take_length] at hno; exact hno
      have HALL := Lib.hid hall
      clear hall hend hno
      go_wp2
      go_ret2
      exact ⟨by rw [HALL.out]; rfl, hb⟩
    · have hlt : (i : Int) < (n : Int) := by omega
      obtain ⟨e, he⟩ : ∃ e, es[i]? = some e := ⟨es[i]'(by rw [HL.out]; omega), List.getElem?_eq_getElem (by rw [HL.out]; omega)⟩
      have hcs : ∀ j u, j < 7 → e.cells[j]? = some u → wr.cell? ⟨g, i * 7 + j, none⟩ = some u := fun j u hj hu => by
        rw [hb.cell (p := ⟨g, i * 7 + j, none⟩) hgl]; exact HC.out i j e u he hj hu
      have d0 := hcs 0 _ (by omega) rfl
      rw [Nat.add_zero] at d0
      have d1 := hcs 1 _ (by omega) rfl
      have d2 := hcs 2 _ (by omega) rfl
      have d3 := hcs 3 _ (by omega) rfl
      have d4 := hcs 4 _ (by omega) rfl
      have d5 := hcs 5 _ (by omega) rfl
      have d6 := hcs 6 _ (by omega) rfl
      have HE := Lib.hid he
      have hbw := hb.size
      obtain ⟨ev, ek, en, ew, et, em, eg⟩ := e
      simp only at d0 d1 d2 d3 d4 d5 d6
      clear hcs he
      go_wp2_with (with_reducible refine stop_eql rfl ?_)
      refine Lib.hid ?_
      refine wpList_val rfl (some 39) rfl (.bool (decide (ev = vr ∧ ek = key ∧ en = nonce ∧ ew = wth ∧ ([] : List UInt8) = [] ∧ em = made ∧ eg = tag))) ?_ ?_
      · exact runEqE (.tmp 31) (.tmp 38) _ rfl ev vr ek en ew [] em eg key nonce wth [] made tag rfl rfl
      rw [matchO_eq vr ev key nonce wth made tag ek en ew et em eg]
      have hbN : Below w.heap.size w (wr.alloc (.cells #[.int .i64 ev, .string (B ek), .string (B en), .string (B ew), .string ⟨#[]⟩, .string (B em), .string (B eg)] 203)) := hb.alloc hbw _
      have hfind : ∀ c, matchO vr key nonce wth made tag ⟨ev, ek, en, ew, et, em, eg⟩ = c → (es.take (i + 1)).find? (matchO vr key nonce wth made tag) = if c then some ⟨ev, ek, en, ew, et, em, eg⟩ else none := fun c hc => by
        rw [List.take_add_one, List.find?_append, hno, HE.out]
        simp [hc]
      have hwhole : (es.take (i + 1)).find? (matchO vr key nonce wth made tag) = some ⟨ev, ek, en, ew, et, em, eg⟩ → es.find? (matchO vr key nonce wth made tag) = some ⟨ev, ek, en, ew, et, em, eg⟩ := fun h => by
        have e9 := List.find?_append (xs := es.take (i + 1)) (ys := es.drop (i + 1)) (p := matchO vr key nonce wth made tag)
        rw [List.take_append_drop, h] at e9
        simpa using e9
      clear d0 d1 d2 d3 d4 d5 d6
      generalize hb9 : matchO vr key nonce wth made tag ⟨ev, ek, en, ew, et, em, eg⟩ = b at *
      have hf := hfind b rfl
      clear hfind hb9
      generalize wr.alloc (.cells #[.int .i64 ev, .string (B ek), .string (B en), .string (B ew), .string ⟨#[]⟩, .string (B em), .string (B eg)] 203) = W2 at *
      cases b with
      | true =>
        have HANY := Lib.hid (hwhole hf)
        clear hwhole hf hno
        go_wp2
        go_ret2
        exact ⟨by rw [HANY.out]; rfl, hbN⟩
      | false =>
        have HNX := Lib.hid hf
        clear hwhole hf hno
        go_wp2
        go_round
        case rel => exact ⟨i + 1, by omega, by go_num, HNX.out, hbN⟩
        case measure => simp [intOf]; omega
theorem nil_ahead_holds (n : Nat) (w : World) (a : Addr) : (nilAhead (n + 1) 56 (.pointer (some a)) "dromond/engine.holds").run Tryz.prog w = .ok (some false) w := by kernel_rfl
theorem method_holds (n : Nat) (w : World) (a : Addr) : (method (n + 1) 56 (.pointer (some a)) "dromond/engine.holds").run Tryz.prog w = .ok (152, .pointer (some a)) w := by kernel_rfl
theorem nil_ahead_open (n : Nat) (w : World) (a : Addr) : (nilAhead (n + 1) 56 (.pointer (some a)) "dromond/engine.open").run Tryz.prog w = .ok (some false) w := by kernel_rfl
theorem method_open (n : Nat) (w : World) (a : Addr) : (method (n + 1) 56 (.pointer (some a)) "dromond/engine.open").run Tryz.prog w = .ok (153, .pointer (some a)) w := by kernel_rfl
theorem Holds_any (eb base ib : Nat) (v : Value) (es : List Ent) (vr : Int) (key t tag : List UInt8) (w : World) (he : w.cell? ⟨eb, 0, none⟩ = some (.iface 56 (.pointer (some ⟨ib, 0, none⟩)))) (hT : TabE w base ib v es) (h0 : 0 < es.length) (hn : es.length ≤ 1000)
    (hbits : 0 < Eng.bits vr) (hk : key.isEmpty = false) (hl : (key.length : Int) ≤ 64) :
    Calls Tryz.prog 12 #[.pointer (some ⟨eb, 0, none⟩), .int .i64 vr, .string (B key), .string (B t), .string (B tag)] w fun e w' => e = .returned (.int .i64 (if es.any (matchH vr key t tag) then 0 else 7)) ∧ Below w.heap.size w w' := by
  have h1 := nil_ahead_holds
  have h2 := method_holds
  have HS := Lib.hid fun W => signs_any vr key W hbits hk hl
  have HI := Lib.hid (iholds_any base ib v es vr key t tag w hT h0 hn)
  clear hT h0 hn hbits hk hl
  generalize es.any (matchH vr key t tag) = b at *
  go_enter Tryz.func12, Tryz.ntmps12
  go_wp2_with fail
  refine (HS.out _).mono ?_
  rintro _ _ ⟨rfl, rfl⟩
  go_wp2_with fail
  refine HI.out.mono ?_
  rintro _ W1 ⟨rfl, hb⟩
  cases b
  all_goals
    go_wp2
    go_ret
    exact ⟨rfl, hb⟩
theorem Open_any (eb base ib k : Nat) (v : Value) (es : List Ent) (vr : Int) (key nonce wth made tag : List UInt8) (w : World) (he : w.cell? ⟨eb, 0, none⟩ = some (.iface 56 (.pointer (some ⟨ib, 0, none⟩)))) (hT : TabE w base ib v es) (h0 : 0 < es.length) (hn : es.length ≤ 1000)
    (hkb : Eng.keyBytes vr = (k : Int)) (hk0 : 0 < k) (hk : key.length = k) (h8 : 8 ≤ (nonce.length : Int)) (h16 : (nonce.length : Int) ≤ 16) :
    Calls Tryz.prog 16 #[.pointer (some ⟨eb, 0, none⟩), .int .i64 vr, .string (B key), .string (B nonce), .string (B wth), .string (B made), .string (B tag)] w fun e w' => e = .returned (match es.find? (matchO vr key nonce wth made tag) with | some e => .tuple #[.string (B e.t), .int .i64 0] | none => .tuple #[.string (B []), .int .i64 7]) ∧ Below w.heap.size w w' := by
  have h1 := nil_ahead_open
  have h2 := method_open
  have HS := Lib.hid fun W => seals_any vr key nonce k W hkb hk0 hk h8 h16
  have HI := Lib.hid (iopen_any base ib v es vr key nonce wth made tag w hT h0 hn)
  clear hT h0 hn hkb hk0 hk h8 h16
  generalize es.find? (matchO vr key nonce wth made tag) = f at *
  go_enter Tryz.func16, Tryz.ntmps16
  go_wp2_with fail
  refine (HS.out _).mono ?_
  rintro _ _ ⟨rfl, rfl⟩
  go_wp2_with fail
  refine HI.out.mono ?_
  rintro _ W1 ⟨rfl, hb⟩
  unfold foundO
  cases f with
  | none =>
    dsimp only
    go_wp2
    go_ret2
    exact ⟨rfl, hb⟩
  | some x =>
    dsimp only
    go_wp2
    go_ret2
    exact ⟨rfl, hb⟩
/-- Keys and nonces that seal, of the variant 1. -/
def sealOk (key nonce : List UInt8) : Bool := decide (key.length = 16) && decide (8 ≤ nonce.length) && decide (nonce.length ≤ 16)
def signOk (key : List UInt8) : Bool := decide (1 ≤ key.length) && decide (key.length ≤ 64)
theorem rSigns_any (key : List UInt8) (w : World) : Calls Tryz.prog 19 #[.int .i64 5, .string (B key)] w fun e w' => e = .returned (.bool (signOk key)) ∧ w = w' := by
  by_cases h1 : (1 : Int) ≤ (key.length : Int)
  · by_cases h2 : (key.length : Int) ≤ 64
    · have hr : signOk key = true := by simp [signOk]; omega
      rw [hr]
      go_enter Tryz.func19, Tryz.ntmps19
      go_wp2
      go_ret
      first
      | exact ⟨rfl, rfl⟩
      | exact ⟨by simp [*], rfl⟩
    · have hr : signOk key = false := by simp [signOk]; omega
      rw [hr]
      go_enter Tryz.func19, Tryz.ntmps19
      go_wp2
      go_ret
      first
      | exact ⟨rfl, rfl⟩
      | exact ⟨by simp [*], rfl⟩
  · have hr : signOk key = false := by simp [signOk]; omega
    rw [hr]
    go_enter Tryz.func19, Tryz.ntmps19
    go_wp2
    go_ret
    first
      | exact ⟨rfl, rfl⟩
      | exact ⟨by simp [*], rfl⟩
theorem sealOk_cases (key nonce : List UInt8) : (sealOk key nonce = true ∧ (key.length : Int) = 16 ∧ (8 : Int) ≤ (nonce.length : Int) ∧ (nonce.length : Int) ≤ 16) ∨ (sealOk key nonce = false ∧ ¬ (key.length : Int) = 16) ∨ (sealOk key nonce = false ∧ (key.length : Int) = 16 ∧ ¬ (8 : Int) ≤ (nonce.length : Int)) ∨ (sealOk key nonce = false ∧ (key.length : Int) = 16 ∧ (8 : Int) ≤ (nonce.length : Int) ∧ ¬ (nonce.length : Int) ≤ 16) := by
  unfold sealOk
  by_cases h1 : key.length = 16
  · by_cases h2 : 8 ≤ nonce.length
    · by_cases h3 : nonce.length ≤ 16
      · left; simp [h1, h2, h3]; omega
      · right; right; right; simp [h1, h2, h3]; omega
    · right; right; left; simp [h1, h2]; omega
  · right; left; simp [h1]; omega
theorem rSeals_any (key nonce : List UInt8) (w : World) : Calls Tryz.prog 20 #[.int .i64 1, .string (B key), .string (B nonce)] w fun e w' => e = .returned (.bool (sealOk key nonce)) ∧ w = w' := by
  rcases sealOk_cases key nonce with ⟨hr, h1, h2, h3⟩ | ⟨hr, h1⟩ | ⟨hr, h1, h2⟩ | ⟨hr, h1, h2, h3⟩
  all_goals
    rw [hr]
    clear hr
    go_enter Tryz.func20, Tryz.ntmps20
    go_wp2
    go_ret
    first
      | exact ⟨rfl, rfl⟩
      | exact ⟨by simp [*], rfl⟩
theorem seals1_any (key nonce : List UInt8) (w : World) : Calls Tryz.prog 28 #[.int .i64 1, .string (B key), .string (B nonce)] w fun e w' => e = .returned (.bool (sealOk key nonce)) ∧ w = w' := by
  have HB := Lib.hid fun W => Eng.keyBytes_any 1 W
  rw [show Eng.keyBytes 1 = 16 from by decide] at HB
  rcases sealOk_cases key nonce with ⟨hr, h1, h2, h3⟩ | ⟨hr, h1⟩ | ⟨hr, h1, h2⟩ | ⟨hr, h1, h2, h3⟩
  all_goals
    rw [hr]
    clear hr
    go_enter Tryz.func28, Tryz.ntmps28
    go_wp2_with fail
    refine (HB.out _).mono ?_
    rintro _ _ ⟨rfl, rfl⟩
    go_wp2_with fail
    refine (HB.out _).mono ?_
    rintro _ _ ⟨rfl, rfl⟩
    go_wp2
    go_ret
    first
      | exact ⟨rfl, rfl⟩
      | exact ⟨by simp [*], rfl⟩
theorem Seal_no (eb : Nat) (key nonce wth t : List UInt8) (w : World) (h : sealOk key nonce = false) : Calls Tryz.prog 14 #[.pointer (some ⟨eb, 0, none⟩), .int .i64 1, .string (B key), .string (B nonce), .string (B wth), .string (B t)] w fun e w' => e = .returned (.tuple #[.string (B []), .string (B []), .int .i64 1]) ∧ w = w' := by
  have HS := Lib.hid fun W => seals1_any key nonce W
  rw [h] at HS
  go_enter Tryz.func14, Tryz.ntmps14
  go_wp2_with fail
  refine (HS.out _).mono ?_
  rintro _ _ ⟨rfl, rfl⟩
  go_wp2
  exact bodyPost_ret (v := .tuple #[.string (B []), .string (B []), .int .i64 1]) (by simp [results, Tryz.results14, go_sem]; rfl) rfl ⟨rfl, rfl⟩
end Go.Proofs.YtlbpodddokhmaaaGreat.EngX
