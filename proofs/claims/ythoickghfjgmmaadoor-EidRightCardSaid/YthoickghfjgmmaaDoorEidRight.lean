/-
  EidRight: of every name Right, Item and Text return what the reference says.
  Conditions: none (the package's table is as the program's text lays it: the card ties that).
-/
import Derived.Test.YthoickghfjgmmaaDoorTxt
import Derived.Test.YthoickghfjgmmaaDoorFrameT
import Derived.Test.YthoickghfjgmmaaDoorEid3
import Derived.Test.YthoickghfjgmmaaDoorRef10b
import Derived.Test.YthoickghfjgmmaaDoorEidOpen
import Derived.Test.YthoickghfjgmmaaDoorTie
import Derived.Test.YthoickghfjgmmaaDoorCards
import Derived.SevenTiedAt
namespace Go.Proofs.YthoickghfjgmmaaDoor.EidRight
open Go.ChangeShapes Go.WideShapes Go.ChangeAt Go.RowKit Go.Deep Go.Proofs.YthoickghfjgmmaaDoor.Eid Go.Proofs.YthoickghfjgmmaaDoor.Itm Go.Proofs.YthoickghfjgmmaaDoor.Fmt
theorem infoE : (Tryd.prog.info? 24).map (·.size) = some 4 := by kernel_rfl
theorem runLdMid {P : Program} {o : Oper} {a : Act} {w : World} (ty : TypeId) (x : Operand) (ho : o.op = .load ty x) (b f : Nat) (hx : a.eval x = .pointer (some ⟨b, f, none⟩)) (c : Array Value) (hc : w.rangeAt b f c.toList) (d : TypeDesc) (hu : P.underlying ty = some d) (hd : d.isRow = true) (hi : (P.info? ty).map (·.size) = some c.size) :
    (execOp a.eval o).run P w = .ok (.value (.agg c)) w := by
  unfold execOp
  simp only [ho, hx, Instr.loadAt, Instr.sureAddr, Sem.run_bind, Sem.run_pure, Result.andThen_ok, run_loadVar_mid w b f ty c.toList d hc hu hd (by simpa using hi)]
theorem runEqST {o : Oper} {a : Act} {w : World} (x y : Operand) (tp : TypeId) (ho : o.op = .binOp .eql 9 x y tp) (l : List UInt8) (hx : a.eval x = .string (B l)) (hy : a.eval y = .string (B l)) :
    (execOp a.eval o).run Tryd.prog w = .ok (.value (.bool true)) w := by
  unfold execOp
  simp only [ho, hx, hy]
  go_simp
theorem right_tree {s l n v} (h : rightB ((s : Nat) : Int) l ((n : Nat) : Int) ((v : Nat) : Int) = true) : rightT 8 (nameT s l n v) = true ∧ plainB (nameT s l n v) = true ∧ szT (nameT s l n v) ≤ 200 ∧ (s = 1 ∨ s = 2) ∧ l.length ≤ 60 := by
  have hl : l.length ≤ 60 := by
    unfold rightB at h
    split at h
    · rw [Bool.and_eq_true] at h
      by_cases hl : l.length ≤ 60
      · exact hl
      · have := namedB_long l (by omega)
        rw [this] at h
        cases h.2
    · split at h
      · rw [decide_eq_true_eq] at h
        rw [h.1]
        exact Nat.zero_le _
      · cases h
  refine ⟨?_, ?_, ?_, ?_, hl⟩
  · unfold nameT twoT
    split
    · rfl
    · split
      · rfl
      · simp [arrT, numT, rightT, okN, Tr.k, Tr.n, Tr.s, Tr.l, Tr.o]
  · unfold nameT twoT
    split
    · rfl
    · split <;> rfl
  · unfold nameT twoT arrT numT
    split
    · simp [szT, szL]
    · split
      · simp [szT, szL]
      · simp [szT, szL]; omega
  · unfold rightB at h
    split at h
    · exact .inl (by omega)
    · split at h
      · exact .inr (by omega)
      · cases h
def zeroI : Tr := .mk 0 0 [] [] false
set_option maxRecDepth 100000 in
theorem Count_zero (w : World) : Calls Tryd.prog 10 #[.agg #[.int .i64 0, .int .u64 0, .string (B []), .slice none 0 0, .bool false], .int .i64 2] w fun e w' => e = .returned (.int .i64 1) ∧ Below w.heap.size w w' := by
  go_enter Tryd.func10, Tryd.ntmps10
  go_wp2_with fail
  go_loopw [5, 6] (fun s5 s6 wr => s5 = .int .i64 1 ∧ s6 = .int .i64 0 ∧ wr = w.alloc (.cells #[.int .i64 0, .int .u64 0, .string (B []), .slice none 0 0, .bool false] 29)) (fun _ _ _ => 0)
  case atStart => exact ⟨rfl, rfl, rfl⟩
  case round =>
    obtain ⟨rfl, rfl, rfl⟩ := hrel
    go_wp2
    go_ret
    exact ⟨rfl, by ((repeat' (with_reducible first | exact Below.refl _ _ | assumption | refine Below.drew ?_ | refine below_drewN ?_ _ | refine Below.setCell ?_ ?_ _ | refine Below.alloc ?_ ?_ _ | refine Below.ext ?_ ?_ _ | refine Below.trans ?_ (Below.mono ‹_› ?_))) <;> first | omega | (simp; done) | (simp; omega))⟩
set_option maxHeartbeats 1600000 in
set_option maxRecDepth 100000 in
theorem law_long (s : Int) (l : List UInt8) (n v : Nat) (w : World) (hl : ¬ l.length ≤ 100) : Calls Tryd.prog 3 #[.agg #[.int .i64 s, .string (B l), .int .u64 n, .int .u64 v]] w fun e w' => e = .returned (.bool true) ∧ Below w.heap.size w w' := by
  have hd : decide (l.length ≤ 100) = false := decide_eq_false hl
  have HD := Lib.hid hd
  clear hl hd
  go_enter Tryd.func3, Tryd.ntmps3
  go_wp2_with fail
  obtain ⟨w0, hw0⟩ : ∃ w0, w.alloc (.cells #[.int .i64 s, .string (B l), .int .u64 n, .int .u64 v] 24) = w0 := ⟨_, rfl⟩
  have gS : w0.heap.size = w.heap.size + 1 := by rw [← hw0]; show (w.heap.push _).size = _; simp
  have gb : Below w.heap.size w w0 := by rw [← hw0]; exact (Below.refl _ _).alloc (Nat.le_refl _) _
  have q0 : w0.heap[w.heap.size]? = some (.cells #[.int .i64 s, .string (B l), .int .u64 n, .int .u64 v] 24 (0, 0)) := by rw [← hw0]; exact heap_alloc_last w _
  rw [hw0]
  clear hw0
  refine (awake_any _).mono ?_
  rintro e w1 ⟨rfl, hb⟩
  have hz1 : w.heap.size < w1.heap.size := by have := hb.size; omega
  have Q1 := Lib.hid (heap_below hb (by omega) q0)
  have B1 := Lib.hid (gb.trans (hb.mono (by omega)))
  clear hb gb q0 gS
  go_wp2_with (with_reducible refine stop_load 24 rfl ?_)
  refine load_mid_g 24 (.tmp 1) rfl rfl (some 11) rfl w.heap.size 0 rfl #[.int .i64 s, .string (B l), .int .u64 n, .int .u64 v] (rangeAt_row Q1.out) _ Tryd.underlying24 rfl infoE ?_
  go_wp2_with fail
  refine (Few_any _ _ _ _ _).mono ?_
  rw [HD.out]
  rintro e w2 ⟨rfl, hb⟩
  have hz2 : w.heap.size < w2.heap.size := by have := hb.size; omega
  have Q2 := Lib.hid (heap_below hb hz1 Q1.out)
  have B2 := Lib.hid (B1.out.trans (hb.mono B1.out.size))
  clear hb Q1 B1 hz1
  go_wp2_with fail
  refine (awake_any _).mono ?_
  rintro e w3 ⟨rfl, hb⟩
  have B3 := Lib.hid (B2.out.trans (hb.mono B2.out.size))
  clear hb
  go_wp2
  go_ret
  exact ⟨rfl, B3.out⟩
set_option maxHeartbeats 1600000 in
set_option maxRecDepth 100000 in
theorem law_wrong (s : Int) (l : List UInt8) (n v : Nat) (w : World) (hl : l.length ≤ 100) (hr : rightB s l n v = false) : Calls Tryd.prog 3 #[.agg #[.int .i64 s, .string (B l), .int .u64 n, .int .u64 v]] w fun e w' => e = .returned (.bool true) ∧ Below w.heap.size w w' := by
  have hlm : l.length ≤ maxLen := Nat.le_trans hl (by decide)
  have hd : decide (l.length ≤ 100) = true := decide_eq_true hl
  have HD := Lib.hid hd
  have HRI := Lib.hid fun W => rRight_any s l n v W
  have HIT := Lib.hid fun W => Item_no s l n v W hlm hr
  have HTX := Lib.hid fun W => Text_no s l n v W hlm hr
  have HER := Lib.hid fun W => Right_any s l n v W hlm
  rw [hr] at HRI HER
  clear hl hd hlm hr
  go_enter Tryd.func3, Tryd.ntmps3
  go_wp2_with fail
  obtain ⟨w0, hw0⟩ : ∃ w0, w.alloc (.cells #[.int .i64 s, .string (B l), .int .u64 n, .int .u64 v] 24) = w0 := ⟨_, rfl⟩
  have gS : w0.heap.size = w.heap.size + 1 := by rw [← hw0]; show (w.heap.push _).size = _; simp
  have gb : Below w.heap.size w w0 := by rw [← hw0]; exact (Below.refl _ _).alloc (Nat.le_refl _) _
  have q0 : w0.heap[w.heap.size]? = some (.cells #[.int .i64 s, .string (B l), .int .u64 n, .int .u64 v] 24 (0, 0)) := by rw [← hw0]; exact heap_alloc_last w _
  rw [hw0]
  clear hw0
  refine (awake_any _).mono ?_
  rintro e w1 ⟨rfl, hb⟩
  have hz1 : w.heap.size < w1.heap.size := by have := hb.size; omega
  have Q1 := Lib.hid (heap_below hb (by omega) q0)
  have B1 := Lib.hid (gb.trans (hb.mono (by omega)))
  clear hb gb q0 gS
  go_wp2_with (with_reducible refine stop_load 24 rfl ?_)
  refine load_mid_g 24 (.tmp 1) rfl rfl (some 11) rfl w.heap.size 0 rfl #[.int .i64 s, .string (B l), .int .u64 n, .int .u64 v] (rangeAt_row Q1.out) _ Tryd.underlying24 rfl infoE ?_
  go_wp2_with fail
  refine (Few_any _ _ _ _ _).mono ?_
  rw [HD.out]
  rintro e w2 ⟨rfl, hb⟩
  have hz2 : w.heap.size < w2.heap.size := by have := hb.size; omega
  have Q2 := Lib.hid (heap_below hb hz1 Q1.out)
  have B2 := Lib.hid (B1.out.trans (hb.mono B1.out.size))
  clear hb Q1 B1 hz1
  go_wp2_with (with_reducible refine stop_load 24 rfl ?_)
  refine load_mid 24 (.tmp 1) rfl rfl (some 16) rfl w.heap.size 0 rfl #[.int .i64 s, .string (B l), .int .u64 n, .int .u64 v] (rangeAt_row Q2.out) _ Tryd.underlying24 rfl infoE ?_
  go_wp2_with fail
  refine (HRI.out _).mono ?_
  rintro e w3 ⟨rfl, hb⟩
  have hz3 : w.heap.size < w3.heap.size := by have := hb.size; omega
  have Q3 := Lib.hid (heap_below hb hz2 Q2.out)
  have B3 := Lib.hid (B2.out.trans (hb.mono B2.out.size))
  clear hb Q2 B2 hz2
  go_wp2_with (with_reducible refine stop_load 24 rfl ?_)
  refine load_mid 24 (.tmp 1) rfl rfl (some 19) rfl w.heap.size 0 rfl #[.int .i64 s, .string (B l), .int .u64 n, .int .u64 v] (rangeAt_row Q3.out) _ Tryd.underlying24 rfl infoE ?_
  go_wp2_with fail
  refine (HIT.out _).mono ?_
  rintro e w4 ⟨rfl, hb⟩
  have hz4 : w.heap.size < w4.heap.size := by have := hb.size; omega
  have Q4 := Lib.hid (heap_below hb hz3 Q3.out)
  have B4 := Lib.hid (B3.out.trans (hb.mono B3.out.size))
  clear hb Q3 B3 hz3
  go_wp2_with (with_reducible refine stop_store 29 rfl ?_)
  refine store_row 29 (.tmp 4) (.tmp 21) rfl rfl rfl w4.heap.size #[.int .i64 0, .int .u64 0, .string (B []), .slice none 0 0, .bool false] rfl rfl 29 #[.int .i64 0, .int .u64 0, .string ⟨#[]⟩, .slice none 0 0, .bool false] (heap_alloc_last w4 _) infoI rfl (by simp [Value.oneCell']) ?_
  rw [World.setRow_alloc_new]
  obtain ⟨w5, hw5⟩ : ∃ w5, w4.alloc (.cells #[.int .i64 0, .int .u64 0, .string (B []), .slice none 0 0, .bool false] 29) = w5 := ⟨_, rfl⟩
  have hb5 : Below w4.heap.size w4 w5 := by rw [← hw5]; exact (Below.refl _ _).alloc (Nat.le_refl _) _
  have hx5 : w4.heap.size < w5.heap.size := by rw [← hw5]; exact lt_of_last
  have qx5 : w5.heap[w4.heap.size]? = some (.cells #[.int .i64 0, .int .u64 0, .string (B []), .slice none 0 0, .bool false] 29 (0, 0)) := by rw [← hw5]; exact heap_alloc_last w4 _
  have hz5 : w.heap.size < w5.heap.size := by have := hb5.size; omega
  have Q5 := Lib.hid (heap_below hb5 hz4 Q4.out)
  have B5 := Lib.hid (B4.out.trans (hb5.mono B4.out.size))
  have QX5 := Lib.hid qx5
  rw [hw5]
  clear hw5
  clear hb5 qx5 Q4 B4
  go_wp2_with (with_reducible refine stop_load 24 rfl ?_)
  refine load_mid 24 (.tmp 1) rfl rfl (some 24) rfl w.heap.size 0 rfl #[.int .i64 s, .string (B l), .int .u64 n, .int .u64 v] (rangeAt_row Q5.out) _ Tryd.underlying24 rfl infoE ?_
  go_wp2_with fail
  refine (HTX.out _).mono ?_
  rintro e w6 ⟨rfl, hb⟩
  have hz6 : w.heap.size < w6.heap.size := by have := hb.size; omega
  have Q6 := Lib.hid (heap_below hb hz5 Q5.out)
  have B6 := Lib.hid (B5.out.trans (hb.mono B5.out.size))
  have QX6 := Lib.hid (heap_below hb hx5 QX5.out)
  have hx6 : w4.heap.size < w6.heap.size := by have := hb.size; omega
  clear hb Q5 B5 hz5
  go_wp2_with (with_reducible refine stop_load 24 rfl ?_)
  refine load_mid 24 (.tmp 1) rfl rfl (some 28) rfl w.heap.size 0 rfl #[.int .i64 s, .string (B l), .int .u64 n, .int .u64 v] (rangeAt_row Q6.out) _ Tryd.underlying24 rfl infoE ?_
  go_wp2_with fail
  refine (HER.out _).mono ?_
  rintro e w7 ⟨rfl, hb⟩
  have hz7 : w.heap.size < w7.heap.size := by have := hb.size; omega
  have Q7 := Lib.hid (heap_below hb hz6 Q6.out)
  have B7 := Lib.hid (B6.out.trans (hb.mono B6.out.size))
  have QX7 := Lib.hid (heap_below hb hx6 QX6.out)
  have hx7 : w4.heap.size < w7.heap.size := by have := hb.size; omega
  clear hb Q6 B6 hz6
  go_wp2_with (with_reducible refine stop_load 29 rfl ?_)
  refine load_mid_g 29 (.tmp 4) rfl rfl (some 45) rfl w4.heap.size 0 rfl _ (rangeAt_row QX7.out) _ Tryd.underlying29 rfl infoI ?_
  go_wp2_with fail
  refine (Count_zero _).mono ?_
  rintro e w8 ⟨rfl, hb⟩
  have q8 := heap_below hb hx7 QX7.out
  have x0 : w8.cell? ⟨w4.heap.size, 0, none⟩ = some (.int .i64 0) := by rw [cell_of_row _ _ _ _ _ _ q8]; rfl
  have x1 : w8.cell? ⟨w4.heap.size, 1, none⟩ = some (.int .u64 0) := by rw [cell_of_row _ _ _ _ _ _ q8]; rfl
  have B8 := Lib.hid (B7.out.trans (hb.mono B7.out.size))
  clear hb q8
  go_wp2
  go_ret
  exact ⟨rfl, B8.out⟩
set_option maxHeartbeats 3200000 in
set_option maxRecDepth 100000 in
theorem law_right (s l n v) (w : World) (hl : l.length ≤ 100) (hn : n < W64) (hv : v < W64) (hr : rightB ((s : Nat) : Int) l ((n : Nat) : Int) ((v : Nat) : Int) = true) (hg : Tab w) : Calls Tryd.prog 3 #[.agg #[.int .i64 s, .string (B l), .int .u64 n, .int .u64 v]] w fun e w' => e = .returned (.bool true) ∧ Below w.heap.size w w' := by
  have hlm : l.length ≤ maxLen := Nat.le_trans hl (by decide)
  have hl7 : l.length ≤ R47 := by unfold R47; omega
  obtain ⟨hrt, hpl, hsz, hs12, _⟩ := right_tree hr
  have hd : decide (l.length ≤ 100) = true := decide_eq_true hl
  have HD := Lib.hid hd
  have HRI := Lib.hid fun W => rRight_any s l n v W
  have HITM := Lib.hid fun W => Item_any s l n v W hlm hl7 hn hv hr
  have HTX := Lib.hid fun (W : World) (ht : Tab W) => Text_yes s l n v W (by omega) hn hv hr ht
  have HER := Lib.hid fun W => Right_any s l n v W hlm
  have HRT := Lib.hid fun W => rText_any s l n v W (by omega) hn hv
  have HIT : Hid (∀ W : World, Calls Tryd.prog 14 #[.agg #[.int .i64 s, .string (B l), .int .u64 n, .int .u64 v]] W fun e w' => ∃ ds, e = .returned (.agg (List.toArray ds)) ∧ TAt w' (nameT s l n v) ds ∧ Below W.heap.size W w') := Lib.hid fun W => (rItem_any s l n v W hs12 hl7 hn hv).mono fun e w' h => h
  have HBY0 : Hid (∀ (W : World) (ds : List Value), TAt W (nameT s l n v) ds → Calls Tryd.prog 13 #[.agg ds.toArray] W fun e w' => e = .returned (.string (B (bytesB (nameT s l n v)))) ∧ Below W.heap.size W w') := Lib.hid fun W ds ht => Bytes_any ht W (Below.refl _ _) hpl hsz
  have HRR0 : Hid (∀ (W : World) (ds : List Value), TAt W (nameT s l n v) ds → Calls Tryd.prog 12 #[.agg ds.toArray] W fun e w' => e = .returned (.bool true) ∧ Below W.heap.size W w') := Lib.hid fun W ds ht => by
    have := rRight_item _ ds W ht
    rwa [hrt] at this
  have HG := Lib.hid hg
  rw [hr] at HRI HER
  unfold TwoI at HITM
  clear hl hd hlm hr hl7 hrt hpl hsz hs12 hn hv hg
  obtain ⟨mt, hmt⟩ : ∃ mt, nameT s l n v = mt := ⟨_, rfl⟩
  rw [hmt] at HITM HIT HBY0 HRR0
  clear hmt
  generalize bytesB mt = bt at *
  generalize textB s l n v = T at *
  generalize hsi : (s : Int) = si at *
  clear hsi
  generalize si = s at *
  go_enter Tryd.func3, Tryd.ntmps3
  go_wp2_with fail
  obtain ⟨w0, hw0⟩ : ∃ w0, w.alloc (.cells #[.int .i64 s, .string (B l), .int .u64 n, .int .u64 v] 24) = w0 := ⟨_, rfl⟩
  have gS : w0.heap.size = w.heap.size + 1 := by rw [← hw0]; show (w.heap.push _).size = _; simp
  have gb : Below w.heap.size w w0 := by rw [← hw0]; exact (Below.refl _ _).alloc (Nat.le_refl _) _
  have q0 : w0.heap[w.heap.size]? = some (.cells #[.int .i64 s, .string (B l), .int .u64 n, .int .u64 v] 24 (0, 0)) := by rw [← hw0]; exact heap_alloc_last w _
  rw [hw0]
  clear hw0
  refine (awake_any _).mono ?_
  rintro e w1 ⟨rfl, hb⟩
  have hz1 : w.heap.size < w1.heap.size := by have := hb.size; omega
  have Q1 := Lib.hid (heap_below hb (by omega) q0)
  have B1 := Lib.hid (gb.trans (hb.mono (by omega)))
  clear hb gb q0 gS
  go_wp2_with (with_reducible refine stop_load 24 rfl ?_)
  refine load_mid_g 24 (.tmp 1) rfl rfl (some 11) rfl w.heap.size 0 rfl #[.int .i64 s, .string (B l), .int .u64 n, .int .u64 v] (rangeAt_row Q1.out) _ Tryd.underlying24 rfl infoE ?_
  go_wp2_with fail
  refine (Few_any _ _ _ _ _).mono ?_
  rw [HD.out]
  rintro e w2 ⟨rfl, hb⟩
  have hz2 : w.heap.size < w2.heap.size := by have := hb.size; omega
  have Q2 := Lib.hid (heap_below hb hz1 Q1.out)
  have B2 := Lib.hid (B1.out.trans (hb.mono B1.out.size))
  clear hb Q1 B1 hz1
  go_wp2_with (with_reducible refine stop_load 24 rfl ?_)
  refine load_mid 24 (.tmp 1) rfl rfl (some 16) rfl w.heap.size 0 rfl #[.int .i64 s, .string (B l), .int .u64 n, .int .u64 v] (rangeAt_row Q2.out) _ Tryd.underlying24 rfl infoE ?_
  go_wp2_with fail
  refine (HRI.out _).mono ?_
  rintro e w3 ⟨rfl, hb⟩
  have hz3 : w.heap.size < w3.heap.size := by have := hb.size; omega
  have Q3 := Lib.hid (heap_below hb hz2 Q2.out)
  have B3 := Lib.hid (B2.out.trans (hb.mono B2.out.size))
  clear hb Q2 B2 hz2
  go_wp2_with (with_reducible refine stop_load 24 rfl ?_)
  refine load_mid 24 (.tmp 1) rfl rfl (some 19) rfl w.heap.size 0 rfl #[.int .i64 s, .string (B l), .int .u64 n, .int .u64 v] (rangeAt_row Q3.out) _ Tryd.underlying24 rfl infoE ?_
  go_wp2_with fail
  refine (HITM.out _).mono ?_
  rintro e w4 ⟨dx, rfl, htd, hb⟩
  have hz4 : w.heap.size < w4.heap.size := by have := hb.size; omega
  have Q4 := Lib.hid (heap_below hb hz3 Q3.out)
  have B4 := Lib.hid (B3.out.trans (hb.mono B3.out.size))
  have hd5 : dx.toArray.size = 5 := by rw [List.size_toArray]; exact tat_len htd
  have HD1 := Lib.hid (item_oneCell htd)
  have HTD := Lib.hid htd
  have HRRX := Lib.hid fun (W : World) (hd : TAt W mt dx) => HRR0.out W dx hd
  have HBYX := Lib.hid fun (W : World) (hd : TAt W mt dx) => HBY0.out W dx hd
  have X5 := Lib.hid hd5
  clear hb htd hd5 Q3 B3 HRR0
  generalize dx.toArray = X at *
  go_wp2_with (with_reducible refine stop_store 29 rfl ?_)
  refine store_row 29 (.tmp 4) (.tmp 21) rfl rfl rfl w4.heap.size X rfl rfl 29 #[.int .i64 0, .int .u64 0, .string ⟨#[]⟩, .slice none 0 0, .bool false] (heap_alloc_last w4 _) (by rw [X5.out]; exact infoI) (by rw [X5.out]; rfl) HD1.out ?_
  rw [World.setRow_alloc_new]
  obtain ⟨w5, hw5⟩ : ∃ w5, w4.alloc (.cells X 29) = w5 := ⟨_, rfl⟩
  have hb5 : Below w4.heap.size w4 w5 := by rw [← hw5]; exact (Below.refl _ _).alloc (Nat.le_refl _) _
  have hx5 : w4.heap.size < w5.heap.size := by rw [← hw5]; exact lt_of_last
  have qx5 : w5.heap[w4.heap.size]? = some (.cells X 29 (0, 0)) := by rw [← hw5]; exact heap_alloc_last w4 _
  rw [hw5]
  clear hw5
  have hz5 : w.heap.size < w5.heap.size := by have := hb5.size; omega
  have Q5 := Lib.hid (heap_below hb5 hz4 Q4.out)
  have B5 := Lib.hid (B4.out.trans (hb5.mono B4.out.size))
  have T5 := Lib.hid (HTD.out.keep hb5 (Nat.le_refl _))
  have QX5 := Lib.hid qx5
  obtain ⟨x, hx⟩ : ∃ x, w4.heap.size = x := ⟨_, rfl⟩
  rw [hx] at hx5 QX5 ⊢
  clear hb5 qx5 Q4 B4 hx HTD
  go_wp2_with (with_reducible refine stop_load 24 rfl ?_)
  refine load_mid 24 (.tmp 1) rfl rfl (some 24) rfl w.heap.size 0 rfl #[.int .i64 s, .string (B l), .int .u64 n, .int .u64 v] (rangeAt_row Q5.out) _ Tryd.underlying24 rfl infoE ?_
  go_wp2_with fail
  refine (HTX.out _ (HG.out.below rfl B5.out)).mono ?_
  rintro e w6 ⟨rfl, hb⟩
  have hE : w.heap.size < w6.heap.size := by have := hb.size; omega
  have hX : x < w6.heap.size := by have := hb.size; omega
  have QE6 := Lib.hid (heap_below hb hz5 Q5.out)
  have QX6 := Lib.hid (heap_below hb hx5 QX5.out)
  have T6 := Lib.hid (T5.out.keep hb (Nat.le_refl _))
  have B6 := Lib.hid (B5.out.trans (hb.mono B5.out.size))
  clear hb T5 Q5 B5 QX5
  go_wp2_with (with_reducible refine stop_load 24 rfl ?_)
  refine load_mid 24 (.tmp 1) rfl rfl (some 28) rfl w.heap.size 0 rfl #[.int .i64 s, .string (B l), .int .u64 n, .int .u64 v] (rangeAt_row QE6.out) _ Tryd.underlying24 rfl infoE ?_
  go_wp2_with fail
  refine (HER.out _).mono ?_
  rintro e w7 ⟨rfl, hb⟩
  have QE7 := Lib.hid (heap_below hb hE QE6.out)
  have QX7 := Lib.hid (heap_below hb hX QX6.out)
  have T7 := Lib.hid (T6.out.keep hb (Nat.le_refl _))
  have B7 := Lib.hid (B6.out.trans (hb.mono B6.out.size))
  have hE7 : w.heap.size < w7.heap.size := by have := hb.size; omega
  have hX7 : x < w7.heap.size := by have := hb.size; omega
  clear hb T6 QX6 QE6 B6 hE hX
  go_wp2_with fail
  obtain ⟨QE, QX, hE, hX, HBY⟩ : Hid (w7.heap[w.heap.size]? = some (.cells #[.int .i64 s, .string (B l), .int .u64 n, .int .u64 v] 24 (0, 0))) ∧ Hid (w7.heap[x]? = some (.cells X 29 (0, 0))) ∧ w.heap.size < w7.heap.size ∧ x < w7.heap.size ∧ Hid (∀ (W : World) (ds : List Value), TAt W mt ds → Calls Tryd.prog 13 #[.agg ds.toArray] W fun e w' => e = .returned (.string (B bt)) ∧ Below W.heap.size W w') := ⟨QE7, QX7, hE7, hX7, HBY0⟩
  have HRR := Lib.hid fun (W : World) (hW : Below w7.heap.size w7 W) => HRRX.out W (T7.out.keep hW (Nat.le_refl _))
  have HBX := Lib.hid fun (W : World) (hW : Below w7.heap.size w7 W) => HBYX.out W (T7.out.keep hW (Nat.le_refl _))
  clear HRRX HBYX HBY0 QE7 QX7 hE7 hX7
  · clear T7
    generalize w7 = w6 at *
    have hEr : ∀ W : World, (fun W W' => Below W.heap.size W W') W W := fun W => Below.refl _ _
    refine wp_region_rel 24 1 0 (fun W => Below w6.heap.size w6 W) [59, 60, 61, 62, 63, 64, 65, 66, 67, 68, 69, 70, 71, 72, 73, 74, 75, 76, 77, 78, 79, 80, 81, 82] (relAt [fun zv _ => zv = .int .i64 0, fun zv _ => zv = .bool true, fun zv _ => zv = .bool true, fun zv _ => zv = .int .i64 0, fun zv _ => zv = .bool true, fun zv _ => zv = .bool true, fun zv _ => zv = .bool true, fun zv _ => zv = .string (B T), fun zv _ => zv = .agg #[.int .i64 s, .string (B l), .int .u64 n, .int .u64 v], fun zv _ => zv = .string (B T), fun zv _ => zv = .bool true, fun zv _ => zv = .bool true, fun zv _ => zv = .bool true, fun zv _ => zv = .agg X, fun zv _ => zv = .bool true, fun zv _ => zv = .bool true, fun zv _ => zv = .bool true, fun zv _ => zv = .agg X, fun zv _ => zv = .string (B bt), fun zv _ => zv = .agg #[.int .i64 s, .string (B l), .int .u64 n, .int .u64 v], fun zv W => ∃ ds, zv = .agg (List.toArray ds) ∧ TAt W mt ds, fun zv _ => zv = .string (B bt), fun zv _ => zv = .bool true, fun zv _ => zv = .bool true]) (fun W W' => Below W.heap.size W W') (by kernel_rfl) rfl rfl (by kernel_rfl) (by kernel_rfl) (by kernel_rfl) (by kernel_rfl) (Mono.at ⟨fun _ _ _ _ h => h, fun _ _ _ _ h => h, fun _ _ _ _ h => h, fun _ _ _ _ h => h, fun _ _ _ _ h => h, fun _ _ _ _ h => h, fun _ _ _ _ h => h, fun _ _ _ _ h => h, fun _ _ _ _ h => h, fun _ _ _ _ h => h, fun _ _ _ _ h => h, fun _ _ _ _ h => h, fun _ _ _ _ h => h, fun _ _ _ _ h => h, fun _ _ _ _ h => h, fun _ _ _ _ h => h, fun _ _ _ _ h => h, fun _ _ _ _ h => h, fun _ _ _ _ h => h, fun _ _ _ _ h => h, fun _ _ _ hb ⟨ds, h1, h2⟩ => ⟨ds, h1, h2.keep hb (Nat.le_refl _)⟩, fun _ _ _ _ h => h, fun _ _ _ _ h => h, fun _ _ _ _ h => h, trivial⟩) ((Below.refl _ _).drew) ⟨?_, ?_, ?_, ?_, ?_, ?_, ?_, ?_, ?_, ?_, ?_, ?_, ?_, ?_, ?_, ?_, ?_, ?_, ?_, ?_, ?_, ?_, ?_, ?_, trivial⟩ ?_
    · refine relQuiet 0 rfl rfl hEr (.int .i64 0) (fun _ => rfl) fun u wq hS hd => ?_
      simp only [fillL, Act.put, List.setIfInBounds_toArray, List.set_cons_zero, List.set_cons_succ]
      first | kernel_rfl | (show _ = _; kernel_rfl)
    · refine relQuiet 1 rfl rfl hEr (.bool true) (fun _ => rfl) fun u wq hS hd => ?_
      have h0 : u 0 = .int .i64 0 := hd 0 (by kernel_rfl)
      simp only [fillL, Act.put, List.setIfInBounds_toArray, List.set_cons_zero, List.set_cons_succ, h0]
      first | kernel_rfl | (show _ = _; kernel_rfl)
    · refine relQuiet 2 rfl rfl hEr (.bool true) (fun _ => rfl) fun u wq hS hd => ?_
      have h1 : u 1 = .bool true := hd 1 (by kernel_rfl)
      simp only [fillL, Act.put, List.setIfInBounds_toArray, List.set_cons_zero, List.set_cons_succ, h1]
      first | kernel_rfl | (show _ = _; kernel_rfl)
    · refine relRunG 3 rfl fun u wq hS hd => ?_
      have h2 : u 2 = .bool true := hd 2 (by kernel_rfl)
      simp only [fillL, Act.put, List.setIfInBounds_toArray, List.set_cons_zero, List.set_cons_succ, h2]
      refine ⟨by first | kernel_rfl | (show _ = _; kernel_rfl), (.int .i64 0), wq, ?_, hS, hEr wq, rfl⟩
      first | kernel_rfl | (show _ = _; kernel_rfl)
    · refine relRunG 4 rfl fun u wq hS hd => ?_
      have h2 : u 2 = .bool true := hd 2 (by kernel_rfl)
      have h3 : u 3 = .int .i64 0 := hd 3 (by kernel_rfl)
      simp only [fillL, Act.put, List.setIfInBounds_toArray, List.set_cons_zero, List.set_cons_succ, h2, h3]
      refine ⟨by first | kernel_rfl | (show _ = _; kernel_rfl), (.bool true), wq, ?_, hS, hEr wq, rfl⟩
      first | kernel_rfl | (show _ = _; kernel_rfl)
    · refine relQuiet 5 rfl rfl hEr (.bool true) (fun _ => rfl) fun u wq hS hd => ?_
      have h2 : u 2 = .bool true := hd 2 (by kernel_rfl)
      have h4 : u 4 = .bool true := hd 4 (by kernel_rfl)
      simp only [fillL, Act.put, List.setIfInBounds_toArray, List.set_cons_zero, List.set_cons_succ, h2, h4]
      first | kernel_rfl | (show _ = _; kernel_rfl)
    · refine relQuiet 6 rfl rfl hEr (.bool true) (fun _ => rfl) fun u wq hS hd => ?_
      have h2 : u 2 = .bool true := hd 2 (by kernel_rfl)
      have h5 : u 5 = .bool true := hd 5 (by kernel_rfl)
      simp only [fillL, Act.put, List.setIfInBounds_toArray, List.set_cons_zero, List.set_cons_succ, h2, h5]
      first | kernel_rfl | (show _ = _; kernel_rfl)
    · refine relRunG 7 rfl fun u wq hS hd => ?_
      have h6 : u 6 = .bool true := hd 6 (by kernel_rfl)
      simp only [fillL, Act.put, List.setIfInBounds_toArray, List.set_cons_zero, List.set_cons_succ, h6]
      refine ⟨by first | kernel_rfl | (show _ = _; kernel_rfl), (.string (B T)), wq, ?_, hS, hEr wq, rfl⟩
      first | kernel_rfl | (show _ = _; kernel_rfl)
    · refine relRunG 8 rfl fun u wq hS hd => ?_
      have h6 : u 6 = .bool true := hd 6 (by kernel_rfl)
      simp only [fillL, Act.put, List.setIfInBounds_toArray, List.set_cons_zero, List.set_cons_succ, h6]
      refine ⟨by first | kernel_rfl | (show _ = _; kernel_rfl), (.agg #[.int .i64 s, .string (B l), .int .u64 n, .int .u64 v]), wq, ?_, hS, hEr wq, rfl⟩
      exact runLdMid 24 (.tmp 1) rfl w.heap.size 0 rfl _ (rangeAt_row (heap_below hS hE QE.out)) _ Tryd.underlying24 rfl infoE
    · refine relCallG 9 rfl 11 fun u wq hS hd => ?_
      have h6 : u 6 = .bool true := hd 6 (by kernel_rfl)
      have h8 : u 8 = .agg #[.int .i64 s, .string (B l), .int .u64 n, .int .u64 v] := hd 8 (by kernel_rfl)
      simp only [fillL, Act.put, List.setIfInBounds_toArray, List.set_cons_zero, List.set_cons_succ, h6, h8]
      refine ⟨by first | kernel_rfl | (show _ = _; kernel_rfl), #[.agg #[.int .i64 s, .string (B l), .int .u64 n, .int .u64 v]], by kernel_rfl, ?_⟩
      refine (HRT.out wq).mono ?_
      rintro e w' ⟨rfl, hb⟩
      exact ⟨_, rfl, hS.trans (hb.mono hS.size), hb, rfl⟩
    · refine relRunG 10 rfl fun u wq hS hd => ?_
      have h6 : u 6 = .bool true := hd 6 (by kernel_rfl)
      have h7 : u 7 = .string (B T) := hd 7 (by kernel_rfl)
      have h9 : u 9 = .string (B T) := hd 9 (by kernel_rfl)
      simp only [fillL, Act.put, List.setIfInBounds_toArray, List.set_cons_zero, List.set_cons_succ, h6, h7, h9]
      refine ⟨by first | kernel_rfl | (show _ = _; kernel_rfl), (.bool true), wq, ?_, hS, hEr wq, rfl⟩
      exact runEqST (.tmp 66) (.tmp 68) _ rfl T rfl rfl
    · refine relQuiet 11 rfl rfl hEr (.bool true) (fun _ => rfl) fun u wq hS hd => ?_
      have h6 : u 6 = .bool true := hd 6 (by kernel_rfl)
      have h10 : u 10 = .bool true := hd 10 (by kernel_rfl)
      simp only [fillL, Act.put, List.setIfInBounds_toArray, List.set_cons_zero, List.set_cons_succ, h6, h10]
      first | kernel_rfl | (show _ = _; kernel_rfl)
    · refine relQuiet 12 rfl rfl hEr (.bool true) (fun _ => rfl) fun u wq hS hd => ?_
      have h9 : u 9 = .string (B T) := hd 9 (by kernel_rfl)
      have h11 : u 11 = .bool true := hd 11 (by kernel_rfl)
      simp only [fillL, Act.put, List.setIfInBounds_toArray, List.set_cons_zero, List.set_cons_succ, h9, h11]
      first | kernel_rfl | (show _ = _; kernel_rfl)
    · refine relRunG 13 rfl fun u wq hS hd => ?_
      have h12 : u 12 = .bool true := hd 12 (by kernel_rfl)
      simp only [fillL, Act.put, List.setIfInBounds_toArray, List.set_cons_zero, List.set_cons_succ, h12]
      refine ⟨by first | kernel_rfl | (show _ = _; kernel_rfl), (.agg X), wq, ?_, hS, hEr wq, rfl⟩
      exact runLdMid 29 (.tmp 4) rfl x 0 rfl X (rangeAt_row (heap_below hS hX QX.out)) _ Tryd.underlying29 rfl (by rw [X5.out]; exact infoI)
    · refine relCallG 14 rfl 12 fun u wq hS hd => ?_
      have h12 : u 12 = .bool true := hd 12 (by kernel_rfl)
      have h13 : u 13 = .agg X := hd 13 (by kernel_rfl)
      simp only [fillL, Act.put, List.setIfInBounds_toArray, List.set_cons_zero, List.set_cons_succ, h12, h13]
      refine ⟨by first | kernel_rfl | (show _ = _; kernel_rfl), #[.agg X], by kernel_rfl, ?_⟩
      refine (HRR.out wq hS).mono ?_
      rintro e w' ⟨rfl, hb⟩
      exact ⟨_, rfl, hS.trans (hb.mono hS.size), hb, rfl⟩
    · refine relQuiet 15 rfl rfl hEr (.bool true) (fun _ => rfl) fun u wq hS hd => ?_
      have h12 : u 12 = .bool true := hd 12 (by kernel_rfl)
      have h14 : u 14 = .bool true := hd 14 (by kernel_rfl)
      simp only [fillL, Act.put, List.setIfInBounds_toArray, List.set_cons_zero, List.set_cons_succ, h12, h14]
      first | kernel_rfl | (show _ = _; kernel_rfl)
    · refine relQuiet 16 rfl rfl hEr (.bool true) (fun _ => rfl) fun u wq hS hd => ?_
      have h14 : u 14 = .bool true := hd 14 (by kernel_rfl)
      have h15 : u 15 = .bool true := hd 15 (by kernel_rfl)
      simp only [fillL, Act.put, List.setIfInBounds_toArray, List.set_cons_zero, List.set_cons_succ, h14, h15]
      first | kernel_rfl | (show _ = _; kernel_rfl)
    · refine relRunG 17 rfl fun u wq hS hd => ?_
      have h16 : u 16 = .bool true := hd 16 (by kernel_rfl)
      simp only [fillL, Act.put, List.setIfInBounds_toArray, List.set_cons_zero, List.set_cons_succ, h16]
      refine ⟨by first | kernel_rfl | (show _ = _; kernel_rfl), (.agg X), wq, ?_, hS, hEr wq, rfl⟩
      exact runLdMid 29 (.tmp 4) rfl x 0 rfl X (rangeAt_row (heap_below hS hX QX.out)) _ Tryd.underlying29 rfl (by rw [X5.out]; exact infoI)
    · refine relCallG 18 rfl 13 fun u wq hS hd => ?_
      have h16 : u 16 = .bool true := hd 16 (by kernel_rfl)
      have h17 : u 17 = .agg X := hd 17 (by kernel_rfl)
      simp only [fillL, Act.put, List.setIfInBounds_toArray, List.set_cons_zero, List.set_cons_succ, h16, h17]
      refine ⟨by first | kernel_rfl | (show _ = _; kernel_rfl), #[.agg X], by kernel_rfl, ?_⟩
      refine (HBX.out wq hS).mono ?_
      rintro e w' ⟨rfl, hb⟩
      exact ⟨_, rfl, hS.trans (hb.mono hS.size), hb, rfl⟩
    · refine relRunG 19 rfl fun u wq hS hd => ?_
      have h16 : u 16 = .bool true := hd 16 (by kernel_rfl)
      simp only [fillL, Act.put, List.setIfInBounds_toArray, List.set_cons_zero, List.set_cons_succ, h16]
      refine ⟨by first | kernel_rfl | (show _ = _; kernel_rfl), (.agg #[.int .i64 s, .string (B l), .int .u64 n, .int .u64 v]), wq, ?_, hS, hEr wq, rfl⟩
      exact runLdMid 24 (.tmp 1) rfl w.heap.size 0 rfl _ (rangeAt_row (heap_below hS hE QE.out)) _ Tryd.underlying24 rfl infoE
    · refine relCallG 20 rfl 14 fun u wq hS hd => ?_
      have h16 : u 16 = .bool true := hd 16 (by kernel_rfl)
      have h18 : u 18 = .string (B bt) := hd 18 (by kernel_rfl)
      have h19 : u 19 = .agg #[.int .i64 s, .string (B l), .int .u64 n, .int .u64 v] := hd 19 (by kernel_rfl)
      simp only [fillL, Act.put, List.setIfInBounds_toArray, List.set_cons_zero, List.set_cons_succ, h16, h18, h19]
      refine ⟨by first | kernel_rfl | (show _ = _; kernel_rfl), #[.agg #[.int .i64 s, .string (B l), .int .u64 n, .int .u64 v]], by kernel_rfl, ?_⟩
      refine (HIT.out wq).mono ?_
      rintro e w' ⟨ds, rfl, ht, hb⟩
      exact ⟨_, rfl, hS.trans (hb.mono hS.size), hb, ds, rfl, ht⟩
    · refine relCallG 21 rfl 13 fun u wq hS hd => ?_
      have h16 : u 16 = .bool true := hd 16 (by kernel_rfl)
      have h20 : (fun zv W => ∃ ds, zv = .agg (List.toArray ds) ∧ TAt W mt ds) (u 20) wq := hd 20 (by kernel_rfl)
      obtain ⟨ds, e20, t20⟩ := h20
      simp only [fillL, Act.put, List.setIfInBounds_toArray, List.set_cons_zero, List.set_cons_succ, h16, e20]
      refine ⟨by first | kernel_rfl | (show _ = _; kernel_rfl), #[.agg ds.toArray], by kernel_rfl, ?_⟩
      refine (HBY.out wq ds t20).mono ?_
      rintro e w' ⟨rfl, hb⟩
      exact ⟨_, rfl, hS.trans (hb.mono hS.size), hb, rfl⟩
    · refine relRunG 22 rfl fun u wq hS hd => ?_
      have h16 : u 16 = .bool true := hd 16 (by kernel_rfl)
      have h18 : u 18 = .string (B bt) := hd 18 (by kernel_rfl)
      have h21 : u 21 = .string (B bt) := hd 21 (by kernel_rfl)
      simp only [fillL, Act.put, List.setIfInBounds_toArray, List.set_cons_zero, List.set_cons_succ, h16, h18, h21]
      refine ⟨by first | kernel_rfl | (show _ = _; kernel_rfl), (.bool true), wq, ?_, hS, hEr wq, rfl⟩
      exact runEqST (.tmp 77) (.tmp 80) _ rfl bt rfl rfl
    · refine relQuiet 23 rfl rfl hEr (.bool true) (fun _ => rfl) fun u wq hS hd => ?_
      have h16 : u 16 = .bool true := hd 16 (by kernel_rfl)
      have h22 : u 22 = .bool true := hd 22 (by kernel_rfl)
      simp only [fillL, Act.put, List.setIfInBounds_toArray, List.set_cons_zero, List.set_cons_succ, h16, h22]
      first | kernel_rfl | (show _ = _; kernel_rfl)
    intro u w7 hS hv
    have h0 : u 0 = .int .i64 0 := hv 0 (by decide)
    have h1 : u 1 = .bool true := hv 1 (by decide)
    have h2 : u 2 = .bool true := hv 2 (by decide)
    have h3 : u 3 = .int .i64 0 := hv 3 (by decide)
    have h4 : u 4 = .bool true := hv 4 (by decide)
    have h5 : u 5 = .bool true := hv 5 (by decide)
    have h6 : u 6 = .bool true := hv 6 (by decide)
    have h7 : u 7 = .string (B T) := hv 7 (by decide)
    have h8 : u 8 = .agg #[.int .i64 s, .string (B l), .int .u64 n, .int .u64 v] := hv 8 (by decide)
    have h9 : u 9 = .string (B T) := hv 9 (by decide)
    have h10 : u 10 = .bool true := hv 10 (by decide)
    have h11 : u 11 = .bool true := hv 11 (by decide)
    have h12 : u 12 = .bool true := hv 12 (by decide)
    have h13 : u 13 = .agg X := hv 13 (by decide)
    have h14 : u 14 = .bool true := hv 14 (by decide)
    have h15 : u 15 = .bool true := hv 15 (by decide)
    have h16 : u 16 = .bool true := hv 16 (by decide)
    have h17 : u 17 = .agg X := hv 17 (by decide)
    have h18 : u 18 = .string (B bt) := hv 18 (by decide)
    have h19 : u 19 = .agg #[.int .i64 s, .string (B l), .int .u64 n, .int .u64 v] := hv 19 (by decide)
    have h20 : (fun zv W => ∃ ds, zv = .agg (List.toArray ds) ∧ TAt W mt ds) (u 20) w7 := hv 20 (by decide)
    obtain ⟨ds, e20, t20⟩ := h20
    have h21 : u 21 = .string (B bt) := hv 21 (by decide)
    have h22 : u 22 = .bool true := hv 22 (by decide)
    have h23 : u 23 = .bool true := hv 23 (by decide)
    simp only [fillL, Act.put, List.setIfInBounds_toArray, List.set_cons_zero, List.set_cons_succ, h0, h1, h2, h3, h4, h5, h6, h7, h8, h9, h10, h11, h12, h13, h14, h15, h16, h17, h18, h19, e20, h21, h22, h23]
    clear hEr hv h0 h1 h2 h3 h4 h5 h6 h7 h8 h9 h10 h11 h12 h13 h14 h15 h16 h17 h18 h19 e20 h21 h22 h23
    clear u
    refine wpAny_of_held (S := fun _ => True) _ _ _ _ ?_
    refine oneH 24 rfl rfl (by kernel_rfl) fun K hK => ?_
    refine wpH_same (some 2) rfl (.bool true) (by kernel_rfl) ?_
    simp only [Act.put, List.setIfInBounds_toArray, List.set_cons_zero, List.set_cons_succ]
    refine hK _ _ trivial fun _ => ?_
    clear hK K
    refine wpAnyH_done (by kernel_rfl) ?_ _
    have HE := Lib.hid (B7.out.trans (hS.mono B7.out.size))
    clear hS t20
    go_wp2
    go_ret
    exact ⟨rfl, HE.out⟩
set_option maxRecDepth 100000 in
theorem walk (W : World) (base : Nat) (args : Array Value) {H : Type} {enc : TypeId × Value → H} (ds : List (DataW H)) (ps : List MemPlace) (hg : GlobAt W)
    (hval : ∀ (j : Nat) t v, Tryd.f3.params[j]? = some t → args[j]? = some v → Value.okWide Tryd.prog W .any base t v)
    (hA : DataW.TrodAll enc Tryd.prog W 0 (fun _ => true) true Tryd.f3.params.toList args.toList ds ps) (hlt : ∀ p ∈ ps, p.block < W.heap.size) :
    Calls Tryd.prog 3 args W fun e W' => e = .returned (.bool true) ∧ Below W.heap.size W W' := by
  rw [Tryd.params3] at hA hval
  obtain ⟨v0, d0, rfl, rfl, h0⟩ := trodAll_one hA
  obtain ⟨s, l, n, v, rfl, hn, hv⟩ := Eid.open_eid_nat (hval 0 24 v0 rfl rfl) h0 hlt
  by_cases hl : l.length ≤ 100
  · cases hr : rightB s l n v with
    | false => exact law_wrong s l n v W hl hr
    | true =>
      have hs : s = 1 ∨ s = 2 := by
        have h := hr
        unfold rightB at h
        split at h
        · exact .inl ‹_›
        · split at h
          · exact .inr ‹_›
          · cases h
      rcases hs with rfl | rfl
      · exact law_right 1 l n v W hl hn hv hr hg
      · exact law_right 2 l n v W hl hn hv hr hg
  · exact law_long s l n v W hl
set_option maxRecDepth 100000 in
theorem door_met (os : Os) (args : Array Value) : laidMetH Tryd.prog laidL ((World.doorLaid Tryd.prog 400 os).forCall (fun _ _ => 0) ⟨#[], args, []⟩).memory :=
  laidMetH_of_parts3 (fuel := 8) (laidMet_of_run' 8 (by kernel_rfl) (by kernel_rfl)) (by kernel_rfl) (by kernel_rfl)
set_option maxRecDepth 100000 in
theorem lifted (os : Os) (started : os.Started) (H : Type) (enc : TypeId × Value → H) :
    ReturnsInHanded {} Tryd.checked os 3 .any (fun w args => (Rows.eidRightSpec.pre enc Tryd.prog Tryd.f3 [] false w args ∧ laidMetH Tryd.prog laidL w) ∧ sizedMet enc Tryd.prog Tryd.f3 (OpenSpec.ofChange Rows.eidRightSpec) false w args) (Rows.eidRightSpec.post enc Tryd.prog Tryd.f3 false true false false) :=
  law_lift_laid (C := Tryd.checked) (tb := 4) (by kernel_rfl) started (by kernel_rfl) Tryd.func3
    (ChangeSpec.witness_shaped (enc := enc) (C := Tryd.checked) (os := os) (X := fun w _ => laidMetH Tryd.prog laidL w) false (World.doorLaid Tryd.prog 400 os) #[.agg #[.int .i64 0, .string ⟨#[]⟩, .int .u64 0, .int .u64 0]] 8 rfl (World.shaped_of_RefB (by kernel_rfl) (by kernel_rfl)) (by kernel_rfl) (by kernel_rfl) (by kernel_rfl) (door_met os _))
    (by kernel_rfl) (by kernel_rfl) rfl (by kernel_rfl) Tryd.underlying4 (fun ds h => by match ds, h with | [_], _ => exact ⟨rfl, rfl, rfl⟩)
    (fun W base args ds ps hL hval hA hlt => walk W base args ds ps (laid_glob hL) hval hA hlt)
theorem over : Rows.eidRightRow.holds Tryd.pinned (OpenSpec.ofChange Rows.eidRightSpec) :=
  OpenClaim.holds_of_wide 3 Tryd.f3 rfl rfl rfl rfl rfl rfl rfl ⟨rfl, rfl, rfl, rfl, rfl⟩ rfl rfl rfl rfl rfl (by kernel_rfl) Tryd.func3 (by kernel_rfl)
    (of_decide_eq_true (by kernel_rfl)) (by unfold Func.isWrapper; rw [if_neg (of_decide_eq_false (by kernel_rfl))]; exact ⟨rfl, rfl⟩)
    (fun os started H enc _ => lifted os started H enc)
theorem proved : Rows.EidRightCardSaid :=
  Claim7.holds_tied_plain_at .later [] [.data, .data, .data] true (true, "f3f50a0237b8dbdbf75c8729aca0f66869a2a5f4b59819d469d1a4c8f4e3557c") false
    over (fun _ h => by cases h) (by kernel_rfl) (fun _ h => by cases h) eidRight_row_tie rfl ⟨rfl, rfl⟩ (by kernel_rfl) rfl
    (fun f fn hf hfn => by
      obtain rfl : f = 3 := Option.some.inj ((show Tryd.prog.funcNamed "dromond/dromondlaw10.EidRight" = some 3 by kernel_rfl).symm.trans hf) |>.symm
      obtain rfl : fn = Tryd.f3 := (Option.some.inj (Tryd.func3.symm.trans hfn)).symm
      exact ⟨by kernel_rfl, fun j t ht => by
        have hm := Array.mem_of_getElem? ht
        have hall : (Tryd.f3.params.toList.all fun u => !Tryd.prog.wantsStandIn u) = true := by kernel_rfl
        exact (show Tryd.prog.wantsStandIn t = false by simpa using List.all_eq_true.1 hall t (by simpa using hm))⟩)
    (by kernel_rfl)
#print axioms proved
end Go.Proofs.YthoickghfjgmmaaDoor.EidRight
