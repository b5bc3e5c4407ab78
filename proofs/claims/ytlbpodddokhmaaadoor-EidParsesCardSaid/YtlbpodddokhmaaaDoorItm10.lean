/-
  The walk of eid.read: the name that an item may be.
  Conditions: none.
-/
import Derived.Test.YtlbpodddokhmaaaDoorItm9
namespace Go.Proofs.YtlbpodddokhmaaaDoor.Itm
open Go.ChangeShapes Go.WideShapes Go.ChangeAt Go.RowKit Go.Deep Go.Proofs.YtlbpodddokhmaaaDoor.Eid
structure Nm where
  s : Nat
  l : List UInt8
  n : Nat
  v : Nat
def Nm.zero : Nm := ⟨0, [], 0, 0⟩
def Nm.none : Nm := ⟨1, [110, 111, 110, 101], 0, 0⟩
def nmV (m : Nm) : Value := .agg #[.int .i64 m.s, .string (B m.l), .int .u64 m.n, .int .u64 m.v]
def textOf (x y : Tr) : Nm := if x.n = 1 ∧ y.k = 3 then ⟨1, y.s, 0, 0⟩ else Nm.none
def readY (x y : Tr) : Nm := match y.l with
  | [p, q] => if x.n = 2 then ⟨2, [], p.n, q.n⟩ else textOf x y
  | _ => textOf x y
def readT (t : Tr) : Nm := if t.k = 4 then (match t.l with
  | [x, y] => if x.k = 0 then readY x y else Nm.zero
  | _ => Nm.zero) else Nm.zero
theorem readY_two {x y p q : Tr} (h : y.l = [p, q]) (hx : x.n = 2) : readY x y = ⟨2, [], p.n, q.n⟩ := by unfold readY; rw [h]; simp [hx]
theorem readY_rest {x y : Tr} (h : ¬ (x.n = 2 ∧ y.l.length = 2)) : readY x y = textOf x y := by
  unfold readY
  split
  · next p q hl => rw [if_neg]; intro hx; exact h ⟨hx, by rw [hl]; rfl⟩
  · rfl
theorem readT_len {t : Tr} (h : ¬ t.l.length = 2) : readT t = Nm.zero := by
  unfold readT
  split
  · split
    · next x y hl => exact absurd (by rw [hl]; rfl) h
    · rfl
  · rfl
theorem infoE : (Tryd.prog.info? 25).map (·.size) = some 4 := by kernel_rfl
/-- The cells of an item that lies in a row. -/
theorem range5 {w : World} {b o : Nat} {c0 c1 c2 c3 c4 : Value} (h : w.rangeAt b o [c0, c1, c2, c3, c4]) : w.cell? ⟨b, o, Option.none⟩ = some c0 ∧ w.cell? ⟨b, o + 1, Option.none⟩ = some c1 ∧ w.cell? ⟨b, o + 2, Option.none⟩ = some c2 ∧ w.cell? ⟨b, o + 3, Option.none⟩ = some c3 ∧ w.cell? ⟨b, o + 4, Option.none⟩ = some c4 :=
  ⟨h 0 c0 rfl, h 1 c1 rfl, h 2 c2 rfl, h 3 c3 rfl, h 4 c4 rfl⟩
theorem runLdCell' {o : Oper} {a : Act} {w : World} (x : Operand) (ho : o.op = .load 31 x) (p : Addr) (hx : a.eval x = .pointer (some p)) (v : Value) (hc : w.cell? p = some v) : (execOp a.eval o).run Tryd.prog w = .ok (.value v) w :=
  runLdCell x ho p hx v hc
set_option maxHeartbeats 1600000 in
set_option maxRecDepth 100000 in
theorem read_len (t : Tr) (cs : List Value) (w : World) (h : TAt w t cs) (hl : ¬ (t.k = 4 ∧ t.l.length = 2)) : Calls Tryd.prog 24 #[.agg cs.toArray] w fun e w' => e = .returned (nmV Nm.zero) ∧ Below w.heap.size w w' := by
  obtain ⟨a, c, C, rfl, _, _, hll, _⟩ := box_item h
  obtain ⟨n, hn⟩ : ∃ n, t.l.length = n := ⟨_, rfl⟩
  rw [hn] at hll hl
  rw [hn]
  clear hn h
  generalize t.k = tk at *
  generalize t.n = tn at *
  generalize t.s = ts at *
  generalize t.o = tob at *
  have H := Lib.hid hl
  clear hl hll
  go_enter Tryd.func24, Tryd.ntmps24
  by_cases hk : tk = 4
  · subst hk
    have hn2 : ¬ (n : Int) = 2 := fun h => H.out ⟨rfl, by omega⟩
    go_wp2
    exact bodyPost_ret (v := .agg #[.int .i64 0, .string ⟨#[]⟩, .int .u64 0, .int .u64 0]) (by simp [results, Tryd.results24, go_sem]) rfl ⟨rfl, by ((repeat' (with_reducible first | exact Below.refl _ _ | assumption | refine Below.drew ?_ | refine below_drewN ?_ _ | refine Below.setCell ?_ ?_ _ | refine Below.alloc ?_ ?_ _ | refine Below.ext ?_ ?_ _ | refine Below.trans ?_ (Below.mono ‹_› ?_))) <;> first | omega | (simp; done) | (simp; omega))⟩
  · go_wp2
    exact bodyPost_ret (v := .agg #[.int .i64 0, .string ⟨#[]⟩, .int .u64 0, .int .u64 0]) (by simp [results, Tryd.results24, go_sem]) rfl ⟨rfl, by ((repeat' (with_reducible first | exact Below.refl _ _ | assumption | refine Below.drew ?_ | refine below_drewN ?_ _ | refine Below.setCell ?_ ?_ _ | refine Below.alloc ?_ ?_ _ | refine Below.ext ?_ ?_ _ | refine Below.trans ?_ (Below.mono ‹_› ?_))) <;> first | omega | (simp; done) | (simp; omega))⟩
set_option maxHeartbeats 1600000 in
set_option maxRecDepth 100000 in
theorem read_kind (x y : Tr) (tn : Nat) (ts : List UInt8) (o : Bool) (cs : List Value) (w : World) (h : TAt w (.mk 4 tn ts [x, y] o) cs) (hx : ¬ x.k = 0) : Calls Tryd.prog 24 #[.agg cs.toArray] w fun e w' => e = .returned (nmV Nm.zero) ∧ Below w.heap.size w w' := by
  obtain ⟨a, c, C, rfl, _, _, _, hel⟩ := box_item h
  obtain ⟨b, f, rfl, hbl, hr, h0, _⟩ := hel 0 x rfl
  obtain ⟨a0, d0, C0, hC0, _⟩ := box_item h0
  rw [hC0] at hr
  have hc0 := (range5 hr).1
  simp only [Nat.zero_mul, Nat.add_zero] at hc0
  simp only [Tr.k, Tr.n, Tr.s, Tr.l, Tr.o, List.length_cons, List.length_nil]
  clear hr h0 hel h hC0
  generalize x.k = k0 at *
  go_enter Tryd.func24, Tryd.ntmps24
  go_wp2
  exact bodyPost_ret (v := .agg #[.int .i64 0, .string ⟨#[]⟩, .int .u64 0, .int .u64 0]) (by simp [results, Tryd.results24, go_sem]) rfl ⟨rfl, by ((repeat' (with_reducible first | exact Below.refl _ _ | assumption | refine Below.drew ?_ | refine below_drewN ?_ _ | refine Below.setCell ?_ ?_ _ | refine Below.alloc ?_ ?_ _ | refine Below.ext ?_ ?_ _ | refine Below.trans ?_ (Below.mono ‹_› ?_))) <;> first | omega | (simp; done) | (simp; omega))⟩
set_option maxHeartbeats 1600000 in
set_option maxRecDepth 100000 in
theorem read_rest (x y : Tr) (tn : Nat) (ts : List UInt8) (o : Bool) (cs : List Value) (w : World) (h : TAt w (.mk 4 tn ts [x, y] o) cs) (hx : x.k = 0) (hxy : ¬ (x.n = 2 ∧ y.l.length = 2)) : Calls Tryd.prog 24 #[.agg cs.toArray] w fun e w' => e = .returned (nmV (textOf x y)) ∧ Below w.heap.size w w' := by
  obtain ⟨a, c, C, rfl, _, _, _, hel⟩ := box_item h
  obtain ⟨b, f, rfl, hbl, hr, h0, _⟩ := hel 0 x rfl
  obtain ⟨_, _, hq, _, hr1, h1, _⟩ := hel 1 y rfl
  injection hq with hq; injection hq with hq1 hq2 _
  subst hq1 hq2
  obtain ⟨a0, d0, C0, hC0, _⟩ := box_item h0
  obtain ⟨a1, d1, C1, hC1, _⟩ := box_item h1
  rw [hC0] at hr
  rw [hC1] at hr1
  obtain ⟨hc0, hc1, _, _, _⟩ := range5 hr
  obtain ⟨hd0, hd1, hd2, hd3, hd4⟩ := range5 hr1
  simp only [Nat.zero_mul, Nat.add_zero, Nat.one_mul] at hc0 hc1 hd0 hd1 hd2 hd3 hd4
  simp only [Tr.k, Tr.n, Tr.s, Tr.l, Tr.o, List.length_cons, List.length_nil]
  have HR : Hid (textOf x y = if x.n = 1 ∧ y.k = 3 then ⟨1, y.s, 0, 0⟩ else Nm.none) := Lib.hid rfl
  generalize textOf x y = R at *
  rw [hx] at hc0
  obtain ⟨n, hn⟩ : ∃ n, y.l.length = n := ⟨_, rfl⟩
  rw [hn] at hd3 hxy
  have HXY := Lib.hid hxy
  clear hr h0 hel h hC0 hC1 hr1 h1 hn hxy
  generalize x.n = n0 at *
  generalize y.k = k1 at *
  generalize y.n = n1 at *
  generalize y.s = s1 at *
  generalize y.o = o1 at *
  have HC0 := Lib.hid hc0
  have HC1 := Lib.hid hc1
  obtain ⟨w3, hw3⟩ : ∃ w3, ((w.alloc (.cells #[.int .i64 4, .int .u64 tn, .string (B ts), .slice (some ⟨b, f, Option.none⟩) 2 c, .bool o] 33)).alloc (.cells #[.int .i64 0, .string ⟨#[]⟩, .int .u64 0, .int .u64 0] 25)).alloc (.cells #[.int .i64 k1, .int .u64 n1, .string (B s1), .slice a1 n d1, .bool o1] 33) = w3 := ⟨_, rfl⟩
  have gS : w3.heap.size = w.heap.size + 1 + 1 + 1 := by rw [← hw3]; show (((w.heap.push _).push _).push _).size = _; simp
  have gb : Below w.heap.size w w3 := by rw [← hw3]; exact (((Below.refl _ _).alloc (Nat.le_refl _) _).alloc (by show w.heap.size ≤ (w.heap.push _).size; simp) _).alloc (by show w.heap.size ≤ ((w.heap.push _).push _).size; simp; omega) _
  have q0 : w3.heap[w.heap.size]? = some (.cells #[.int .i64 4, .int .u64 tn, .string (B ts), .slice (some ⟨b, f, Option.none⟩) 2 c, .bool o] 33 (0, 0)) := by rw [← hw3]; exact heap_under (heap_under (heap_alloc_last w _))
  have q1 : w3.heap[w.heap.size + 1]? = some (.cells #[.int .i64 0, .string ⟨#[]⟩, .int .u64 0, .int .u64 0] 25 (0, 0)) := by rw [← hw3]; exact heap_under (heap_at (by show (w.heap.push _).size = _; simp))
  have q2 : w3.heap[w.heap.size + 1 + 1]? = some (.cells #[.int .i64 k1, .int .u64 n1, .string (B s1), .slice a1 n d1, .bool o1] 33 (0, 0)) := by rw [← hw3]; exact heap_at (by show ((w.heap.push _).push _).size = _; simp)
  have e1 : w3.cell? ⟨b, f + 1, Option.none⟩ = some (.int .u64 n0) := by rw [gb.cell (p := ⟨b, f + 1, Option.none⟩) hbl]; exact HC1.out
  have e3 : w3.cell? ⟨w.heap.size, 3, Option.none⟩ = some (.slice (some ⟨b, f, Option.none⟩) 2 c) := by rw [cell_of_row _ _ _ _ _ _ q0]; rfl
  have y0 : w3.cell? ⟨w.heap.size + 1 + 1, 0, Option.none⟩ = some (.int .i64 k1) := by rw [cell_of_row _ _ _ _ _ _ q2]; rfl
  have y2 : w3.cell? ⟨w.heap.size + 1 + 1, 2, Option.none⟩ = some (.string (B s1)) := by rw [cell_of_row _ _ _ _ _ _ q2]; rfl
  have y3 : w3.cell? ⟨w.heap.size + 1 + 1, 3, Option.none⟩ = some (.slice a1 n d1) := by rw [cell_of_row _ _ _ _ _ _ q2]; rfl
  have Q1 := Lib.hid q1
  have GB := Lib.hid gb
  clear q0 q1 q2 gb
  have hfin : ∀ (W : World) (t : Act), Below w3.heap.size w3 W → True := fun _ _ _ => trivial
  clear hfin
  go_enter Tryd.func24, Tryd.ntmps24
  go_upto_region 4 with fail
  clear hw3 hc0 hc1 hd0 hd1 hd2 hd3 hd4
  by_cases h2 : n0 = 2
  · subst h2
    have hn2 : ¬ (n : Int) = 2 := fun h => HXY.out ⟨rfl, by omega⟩
    have HR2 : Hid (R = Nm.none) := Lib.hid (by rw [HR.out]; simp)
    clear HR
    go_wp2_with fail
    refine (None_any _).mono ?_
    rintro e w2 ⟨rfl, hb⟩
    have HB := Lib.hid hb
    clear hb
    go_wp2_with (with_reducible refine stop_store 25 rfl ?_)
    refine store_row 25 (.tmp 2) (.tmp 65) rfl rfl rfl (w.heap.size + 1) #[.int .i64 1, .string (B [110, 111, 110, 101]), .int .u64 0, .int .u64 0] rfl rfl 25 _ (heap_below HB.out (by omega) Q1.out) infoE rfl (by simp [Value.oneCell']) ?_
    go_wp2
    exact post_row (w.heap.size + 1) Tryd.results24 25 #[.int .i64 1, .string (B [110, 111, 110, 101]), .int .u64 0, .int .u64 0] _ rfl (setRow_heap _ _ _ _ _ _ (heap_below HB.out (by omega) Q1.out)) Tryd.underlying25 rfl infoE rfl ⟨by rw [HR2.out]; rfl, setRow_below _ (by omega) (GB.out.trans (HB.out.mono (by omega)))⟩
  · have h2' : ¬ (n0 : Int) = 2 := by omega
    by_cases h1 : n0 = 1
    · subst h1
      by_cases h3 : k1 = 3
      · subst h3
        have HR2 : Hid (R = ⟨1, s1, 0, 0⟩) := Lib.hid (by rw [HR.out]; simp)
        clear h2 h2' HR
        go_wp2_with (with_reducible refine stop_store 25 rfl ?_)
        refine store_row 25 (.tmp 2) (.tmp 64) rfl rfl rfl (w.heap.size + 1) #[.int .i64 1, .string (B s1), .int .u64 0, .int .u64 0] rfl rfl 25 _ Q1.out infoE rfl (by simp [Value.oneCell']) ?_
        go_wp2
        exact post_row (w.heap.size + 1) Tryd.results24 25 #[.int .i64 1, .string (B s1), .int .u64 0, .int .u64 0] _ rfl (setRow_heap _ _ _ _ _ _ Q1.out) Tryd.underlying25 rfl infoE rfl ⟨by rw [HR2.out]; rfl, setRow_below _ (by omega) GB.out⟩
      · have HR2 : Hid (R = Nm.none) := Lib.hid (by rw [HR.out]; simp [h3])
        clear h2 h2' HR
        go_wp2_with fail
        refine (None_any _).mono ?_
        rintro e w2 ⟨rfl, hb⟩
        have HB := Lib.hid hb
        clear hb
        go_wp2_with (with_reducible refine stop_store 25 rfl ?_)
        refine store_row 25 (.tmp 2) (.tmp 65) rfl rfl rfl (w.heap.size + 1) #[.int .i64 1, .string (B [110, 111, 110, 101]), .int .u64 0, .int .u64 0] rfl rfl 25 _ (heap_below HB.out (by omega) Q1.out) infoE rfl (by simp [Value.oneCell']) ?_
        go_wp2
        exact post_row (w.heap.size + 1) Tryd.results24 25 #[.int .i64 1, .string (B [110, 111, 110, 101]), .int .u64 0, .int .u64 0] _ rfl (setRow_heap _ _ _ _ _ _ (heap_below HB.out (by omega) Q1.out)) Tryd.underlying25 rfl infoE rfl ⟨by rw [HR2.out]; rfl, setRow_below _ (by omega) (GB.out.trans (HB.out.mono (by omega)))⟩
    · have h1' : ¬ (n0 : Int) = 1 := by omega
      have HR2 : Hid (R = Nm.none) := Lib.hid (by rw [HR.out]; simp [h1])
      clear h1 h2 HR
      go_wp2_with fail
      refine (None_any _).mono ?_
      rintro e w2 ⟨rfl, hb⟩
      have HB := Lib.hid hb
      clear hb
      go_wp2_with (with_reducible refine stop_store 25 rfl ?_)
      refine store_row 25 (.tmp 2) (.tmp 65) rfl rfl rfl (w.heap.size + 1) #[.int .i64 1, .string (B [110, 111, 110, 101]), .int .u64 0, .int .u64 0] rfl rfl 25 _ (heap_below HB.out (by omega) Q1.out) infoE rfl (by simp [Value.oneCell']) ?_
      go_wp2
      exact post_row (w.heap.size + 1) Tryd.results24 25 #[.int .i64 1, .string (B [110, 111, 110, 101]), .int .u64 0, .int .u64 0] _ rfl (setRow_heap _ _ _ _ _ _ (heap_below HB.out (by omega) Q1.out)) Tryd.underlying25 rfl infoE rfl ⟨by rw [HR2.out]; rfl, setRow_below _ (by omega) (GB.out.trans (HB.out.mono (by omega)))⟩
set_option maxHeartbeats 1600000 in
set_option maxRecDepth 100000 in
theorem read_two (x y p q : Tr) (tn : Nat) (ts : List UInt8) (o : Bool) (cs : List Value) (w : World) (h : TAt w (.mk 4 tn ts [x, y] o) cs) (hx : x.k = 0) (hx2 : x.n = 2) (hy : y.l = [p, q]) : Calls Tryd.prog 24 #[.agg cs.toArray] w fun e w' => e = .returned (nmV ⟨2, [], p.n, q.n⟩) ∧ Below w.heap.size w w' := by
  obtain ⟨a, c, C, rfl, _, _, _, hel⟩ := box_item h
  obtain ⟨b, f, rfl, hbl, hr, h0, _⟩ := hel 0 x rfl
  obtain ⟨_, _, hq, _, hr1, h1, _⟩ := hel 1 y rfl
  injection hq with hq; injection hq with hq1 hq2 _
  subst hq1 hq2
  obtain ⟨a0, d0, C0, hC0, _⟩ := box_item h0
  obtain ⟨a1, d1, C1, hC1, _, _, _, hel1⟩ := box_item h1
  rw [hy] at hel1 hC1
  obtain ⟨b1, f1, rfl, hbl1, hr2, h2, _⟩ := hel1 0 p rfl
  obtain ⟨_, _, hq, _, hr3, h3, _⟩ := hel1 1 q rfl
  injection hq with hq; injection hq with hq1 hq2 _
  subst hq1 hq2
  obtain ⟨a2, d2, C2, hC2, _⟩ := box_item h2
  obtain ⟨a3, d3, C3, hC3, _⟩ := box_item h3
  rw [hC2] at hr2
  rw [hC3] at hr3
  obtain ⟨_, hp1, _, _, _⟩ := range5 hr2
  obtain ⟨_, hp2, _, _, _⟩ := range5 hr3
  rw [hC0] at hr
  rw [hC1] at hr1
  obtain ⟨hc0, hc1, _, _, _⟩ := range5 hr
  obtain ⟨hd0, hd1, hd2, hd3, hd4⟩ := range5 hr1
  simp only [Nat.zero_mul, Nat.add_zero, Nat.one_mul, List.length_cons, List.length_nil, Nat.zero_add] at hc0 hc1 hd0 hd1 hd2 hd3 hd4 hp1 hp2
  simp only [Tr.k, Tr.n, Tr.s, Tr.l, Tr.o, List.length_cons, List.length_nil]
  rw [hx] at hc0
  rw [hx2] at hc1
  clear hr h0 hel h hC0 hC1 hr1 h1 hel1 h2 h3 hC2 hC3 hr2 hr3
  generalize y.k = k1 at *
  generalize y.n = n1 at *
  generalize y.s = s1 at *
  generalize y.o = o1 at *
  have HC0 := Lib.hid hc0
  have HC1 := Lib.hid hc1
  obtain ⟨w3, hw3⟩ : ∃ w3, ((w.alloc (.cells #[.int .i64 4, .int .u64 tn, .string (B ts), .slice (some ⟨b, f, Option.none⟩) 2 c, .bool o] 33)).alloc (.cells #[.int .i64 0, .string ⟨#[]⟩, .int .u64 0, .int .u64 0] 25)).alloc (.cells #[.int .i64 k1, .int .u64 n1, .string (B s1), .slice (some ⟨b1, f1, Option.none⟩) 2 d1, .bool o1] 33) = w3 := ⟨_, rfl⟩
  have gS : w3.heap.size = w.heap.size + 1 + 1 + 1 := by rw [← hw3]; show (((w.heap.push _).push _).push _).size = _; simp
  have gb : Below w.heap.size w w3 := by rw [← hw3]; exact (((Below.refl _ _).alloc (Nat.le_refl _) _).alloc (by show w.heap.size ≤ (w.heap.push _).size; simp) _).alloc (by show w.heap.size ≤ ((w.heap.push _).push _).size; simp; omega) _
  have q0 : w3.heap[w.heap.size]? = some (.cells #[.int .i64 4, .int .u64 tn, .string (B ts), .slice (some ⟨b, f, Option.none⟩) 2 c, .bool o] 33 (0, 0)) := by rw [← hw3]; exact heap_under (heap_under (heap_alloc_last w _))
  have q1 : w3.heap[w.heap.size + 1]? = some (.cells #[.int .i64 0, .string ⟨#[]⟩, .int .u64 0, .int .u64 0] 25 (0, 0)) := by rw [← hw3]; exact heap_under (heap_at (by show (w.heap.push _).size = _; simp))
  have q2 : w3.heap[w.heap.size + 1 + 1]? = some (.cells #[.int .i64 k1, .int .u64 n1, .string (B s1), .slice (some ⟨b1, f1, Option.none⟩) 2 d1, .bool o1] 33 (0, 0)) := by rw [← hw3]; exact heap_at (by show ((w.heap.push _).push _).size = _; simp)
  have e1 : w3.cell? ⟨b, f + 1, Option.none⟩ = some (.int .u64 (2 : Nat)) := by rw [gb.cell (p := ⟨b, f + 1, Option.none⟩) hbl]; exact HC1.out
  have e3 : w3.cell? ⟨w.heap.size, 3, Option.none⟩ = some (.slice (some ⟨b, f, Option.none⟩) 2 c) := by rw [cell_of_row _ _ _ _ _ _ q0]; rfl
  have y0 : w3.cell? ⟨w.heap.size + 1 + 1, 0, Option.none⟩ = some (.int .i64 k1) := by rw [cell_of_row _ _ _ _ _ _ q2]; rfl
  have y2 : w3.cell? ⟨w.heap.size + 1 + 1, 2, Option.none⟩ = some (.string (B s1)) := by rw [cell_of_row _ _ _ _ _ _ q2]; rfl
  have y3 : w3.cell? ⟨w.heap.size + 1 + 1, 3, Option.none⟩ = some (.slice (some ⟨b1, f1, Option.none⟩) 2 d1) := by rw [cell_of_row _ _ _ _ _ _ q2]; rfl
  have p1 : w3.cell? ⟨b1, f1 + 1, Option.none⟩ = some (.int .u64 p.n) := by rw [gb.cell (p := ⟨b1, f1 + 1, Option.none⟩) hbl1]; exact hp1
  have p2 : w3.cell? ⟨b1, f1 + 5 + 1, Option.none⟩ = some (.int .u64 q.n) := by rw [gb.cell (p := ⟨b1, f1 + 5 + 1, Option.none⟩) hbl1]; exact hp2
  have hl1 : b1 < w3.heap.size := by omega
  have hlY : w.heap.size + 1 + 1 < w3.heap.size := by omega
  have Q1 := Lib.hid q1
  have GB := Lib.hid gb
  clear q0 q1 q2 gb
  have hfin : ∀ (W : World) (t : Act), Below w3.heap.size w3 W → True := fun _ _ _ => trivial
  clear hfin
  go_enter Tryd.func24, Tryd.ntmps24
  go_upto_region 4 with fail
  clear hw3 hc0 hc1 hd0 hd1 hd2 hd3 hd4 hp1 hp2
  go_wp2_with fail
  have hEr : ∀ W : World, (fun W W' => Below W.heap.size W W') W W := fun W => Below.refl _ _
  refine wp_region_rel 11 1 0 (fun W => Below w3.heap.size w3 W) [39, 40, 41, 42, 43, 44, 45, 46, 47, 48, 49] (relAt [fun zv _ => zv = .pointer (some ⟨w.heap.size + 1 + 1, 3, Option.none⟩), fun zv _ => zv = .slice (some ⟨b1, f1, Option.none⟩) 2 d1, fun zv _ => zv = .pointer (some ⟨b1, f1, Option.none⟩), fun zv _ => zv = .pointer (some ⟨b1, f1 + 1, Option.none⟩), fun zv _ => zv = .int .u64 (p.n : Nat), fun zv _ => zv = .pointer (some ⟨w.heap.size + 1 + 1, 3, Option.none⟩), fun zv _ => zv = .slice (some ⟨b1, f1, Option.none⟩) 2 d1, fun zv _ => zv = .pointer (some ⟨b1, f1 + 5, Option.none⟩), fun zv _ => zv = .pointer (some ⟨b1, f1 + 5 + 1, Option.none⟩), fun zv _ => zv = .int .u64 (q.n : Nat), fun zv _ => zv = .agg #[.int .i64 2, .string (B []), .int .u64 (p.n : Nat), .int .u64 (q.n : Nat)]]) (fun W W' => Below W.heap.size W W') (by kernel_rfl) rfl rfl (by kernel_rfl) (by kernel_rfl) (by kernel_rfl) (by kernel_rfl) (Mono.at ⟨fun _ _ _ _ h => h, fun _ _ _ _ h => h, fun _ _ _ _ h => h, fun _ _ _ _ h => h, fun _ _ _ _ h => h, fun _ _ _ _ h => h, fun _ _ _ _ h => h, fun _ _ _ _ h => h, fun _ _ _ _ h => h, fun _ _ _ _ h => h, fun _ _ _ _ h => h, trivial⟩) ((Below.refl _ _).drew) ⟨?_, ?_, ?_, ?_, ?_, ?_, ?_, ?_, ?_, ?_, ?_, trivial⟩ ?_
  · refine relQuiet 0 rfl rfl hEr (.pointer (some ⟨w.heap.size + 1 + 1, 3, Option.none⟩)) (fun _ => rfl) fun u wq hS hd => ?_
    simp only [fillL, Act.put, List.setIfInBounds_toArray, List.set_cons_zero, List.set_cons_succ]
    first | kernel_rfl | (show _ = _; kernel_rfl) | rfl
  · refine relQuiet 1 rfl rfl hEr (.slice (some ⟨b1, f1, Option.none⟩) 2 d1) (fun _ => rfl) fun u wq hS hd => ?_
    have h0 : u 0 = .pointer (some ⟨w.heap.size + 1 + 1, 3, Option.none⟩) := hd 0 (by kernel_rfl)
    simp only [fillL, Act.put, List.setIfInBounds_toArray, List.set_cons_zero, List.set_cons_succ, h0]
    exact runLdCell (.tmp 39) rfl ⟨w.heap.size + 1 + 1, 3, Option.none⟩ rfl _ (by rw [hS.cell (p := ⟨w.heap.size + 1 + 1, 3, Option.none⟩) hlY]; exact y3)
  · refine relQuiet 2 rfl rfl hEr (.pointer (some ⟨b1, f1, Option.none⟩)) (fun _ => rfl) fun u wq hS hd => ?_
    have h1 : u 1 = .slice (some ⟨b1, f1, Option.none⟩) 2 d1 := hd 1 (by kernel_rfl)
    simp only [fillL, Act.put, List.setIfInBounds_toArray, List.set_cons_zero, List.set_cons_succ, h1]
    first | kernel_rfl | (show _ = _; kernel_rfl) | rfl
  · refine relQuiet 3 rfl rfl hEr (.pointer (some ⟨b1, f1 + 1, Option.none⟩)) (fun _ => rfl) fun u wq hS hd => ?_
    have h2 : u 2 = .pointer (some ⟨b1, f1, Option.none⟩) := hd 2 (by kernel_rfl)
    simp only [fillL, Act.put, List.setIfInBounds_toArray, List.set_cons_zero, List.set_cons_succ, h2]
    first | kernel_rfl | (show _ = _; kernel_rfl) | rfl
  · refine relQuiet 4 rfl rfl hEr (.int .u64 (p.n : Nat)) (fun _ => rfl) fun u wq hS hd => ?_
    have h3 : u 3 = .pointer (some ⟨b1, f1 + 1, Option.none⟩) := hd 3 (by kernel_rfl)
    simp only [fillL, Act.put, List.setIfInBounds_toArray, List.set_cons_zero, List.set_cons_succ, h3]
    exact runLdU64 (.tmp 42) rfl ⟨b1, f1 + 1, Option.none⟩ rfl _ (by rw [hS.cell (p := ⟨b1, f1 + 1, Option.none⟩) hl1]; exact p1)
  · refine relQuiet 5 rfl rfl hEr (.pointer (some ⟨w.heap.size + 1 + 1, 3, Option.none⟩)) (fun _ => rfl) fun u wq hS hd => ?_
    simp only [fillL, Act.put, List.setIfInBounds_toArray, List.set_cons_zero, List.set_cons_succ]
    first | kernel_rfl | (show _ = _; kernel_rfl) | rfl
  · refine relQuiet 6 rfl rfl hEr (.slice (some ⟨b1, f1, Option.none⟩) 2 d1) (fun _ => rfl) fun u wq hS hd => ?_
    have h5 : u 5 = .pointer (some ⟨w.heap.size + 1 + 1, 3, Option.none⟩) := hd 5 (by kernel_rfl)
    simp only [fillL, Act.put, List.setIfInBounds_toArray, List.set_cons_zero, List.set_cons_succ, h5]
    exact runLdCell (.tmp 44) rfl ⟨w.heap.size + 1 + 1, 3, Option.none⟩ rfl _ (by rw [hS.cell (p := ⟨w.heap.size + 1 + 1, 3, Option.none⟩) hlY]; exact y3)
  · refine relQuiet 7 rfl rfl hEr (.pointer (some ⟨b1, f1 + 5, Option.none⟩)) (fun _ => rfl) fun u wq hS hd => ?_
    have h6 : u 6 = .slice (some ⟨b1, f1, Option.none⟩) 2 d1 := hd 6 (by kernel_rfl)
    simp only [fillL, Act.put, List.setIfInBounds_toArray, List.set_cons_zero, List.set_cons_succ, h6]
    first | kernel_rfl | (show _ = _; kernel_rfl) | rfl
  · refine relQuiet 8 rfl rfl hEr (.pointer (some ⟨b1, f1 + 5 + 1, Option.none⟩)) (fun _ => rfl) fun u wq hS hd => ?_
    have h7 : u 7 = .pointer (some ⟨b1, f1 + 5, Option.none⟩) := hd 7 (by kernel_rfl)
    simp only [fillL, Act.put, List.setIfInBounds_toArray, List.set_cons_zero, List.set_cons_succ, h7]
    first | kernel_rfl | (show _ = _; kernel_rfl) | rfl
  · refine relQuiet 9 rfl rfl hEr (.int .u64 (q.n : Nat)) (fun _ => rfl) fun u wq hS hd => ?_
    have h8 : u 8 = .pointer (some ⟨b1, f1 + 5 + 1, Option.none⟩) := hd 8 (by kernel_rfl)
    simp only [fillL, Act.put, List.setIfInBounds_toArray, List.set_cons_zero, List.set_cons_succ, h8]
    exact runLdU64 (.tmp 47) rfl ⟨b1, f1 + 5 + 1, Option.none⟩ rfl _ (by rw [hS.cell (p := ⟨b1, f1 + 5 + 1, Option.none⟩) hl1]; exact p2)
  · refine relQuiet 10 rfl rfl hEr (.agg #[.int .i64 2, .string (B []), .int .u64 (p.n : Nat), .int .u64 (q.n : Nat)]) (fun _ => rfl) fun u wq hS hd => ?_
    have h4 : u 4 = .int .u64 (p.n : Nat) := hd 4 (by kernel_rfl)
    have h9 : u 9 = .int .u64 (q.n : Nat) := hd 9 (by kernel_rfl)
    simp only [fillL, Act.put, List.setIfInBounds_toArray, List.set_cons_zero, List.set_cons_succ, h4, h9]
    first | kernel_rfl | (show _ = _; kernel_rfl) | rfl
  intro u w4 hS hv
  have h0 : u 0 = .pointer (some ⟨w.heap.size + 1 + 1, 3, Option.none⟩) := hv 0 (by decide)
  have h1 : u 1 = .slice (some ⟨b1, f1, Option.none⟩) 2 d1 := hv 1 (by decide)
  have h2 : u 2 = .pointer (some ⟨b1, f1, Option.none⟩) := hv 2 (by decide)
  have h3 : u 3 = .pointer (some ⟨b1, f1 + 1, Option.none⟩) := hv 3 (by decide)
  have h4 : u 4 = .int .u64 (p.n : Nat) := hv 4 (by decide)
  have h5 : u 5 = .pointer (some ⟨w.heap.size + 1 + 1, 3, Option.none⟩) := hv 5 (by decide)
  have h6 : u 6 = .slice (some ⟨b1, f1, Option.none⟩) 2 d1 := hv 6 (by decide)
  have h7 : u 7 = .pointer (some ⟨b1, f1 + 5, Option.none⟩) := hv 7 (by decide)
  have h8 : u 8 = .pointer (some ⟨b1, f1 + 5 + 1, Option.none⟩) := hv 8 (by decide)
  have h9 : u 9 = .int .u64 (q.n : Nat) := hv 9 (by decide)
  have h10 : u 10 = .agg #[.int .i64 2, .string (B []), .int .u64 (p.n : Nat), .int .u64 (q.n : Nat)] := hv 10 (by decide)
  simp only [fillL, Act.put, List.setIfInBounds_toArray, List.set_cons_zero, List.set_cons_succ, h0, h1, h2, h3, h4, h5, h6, h7, h8, h9, h10]
  clear hEr hv h0 h1 h2 h3 h4 h5 h6 h7 h8 h9 h10
  clear u
  refine wpAny_of_held (S := fun _ => True) _ _ _ _ ?_
  refine oneH 11 rfl rfl (by kernel_rfl) fun K hK => ?_
  refine wpH_store rfl 25 (.tmp 2) (.tmp 49) rfl (w.heap.size + 1) (#[.int .i64 2, .string (B []), .int .u64 (p.n : Nat), .int .u64 (q.n : Nat)]) (_) 25 rfl rfl (heap_below hS (by omega) Q1.out) infoE rfl (by simp [Value.oneCell']) ?_
  refine hK _ _ trivial fun _ => ?_
  clear hK K
  refine wpAnyH_done (by kernel_rfl) ?_ _
  go_wp2
  exact post_row (w.heap.size + 1) Tryd.results24 25 _ _ rfl (setRow_heap _ _ _ _ _ _ (heap_below hS (by omega) Q1.out)) Tryd.underlying25 rfl infoE rfl ⟨rfl, setRow_below _ (by omega) (GB.out.trans (hS.mono (by omega)))⟩
theorem read_any (t : Tr) (cs : List Value) (w : World) (h : TAt w t cs) : Calls Tryd.prog 24 #[.agg cs.toArray] w fun e w' => e = .returned (nmV (readT t)) ∧ Below w.heap.size w w' := by
  by_cases hk : t.k = 4 ∧ t.l.length = 2
  · obtain ⟨k, n, s, l, o⟩ := t
    obtain ⟨hk, hl⟩ := hk
    simp only [Tr.k, Tr.l] at hk hl
    subst hk
    match l, hl with
    | [x, y], _ =>
      have e : readT (.mk 4 n s [x, y] o) = if x.k = 0 then readY x y else Nm.zero := rfl
      rw [e]
      by_cases hx : x.k = 0
      · rw [if_pos hx]
        by_cases hxy : x.n = 2 ∧ y.l.length = 2
        · obtain ⟨hx2, hy⟩ := hxy
          match hyl : y.l, hy with
          | [p, q], _ =>
            rw [readY_two hyl hx2]
            exact read_two x y p q n s o cs w h hx hx2 hyl
        · rw [readY_rest hxy]
          exact read_rest x y n s o cs w h hx hxy
      · rw [if_neg hx]
        exact read_kind x y n s o cs w h hx
  · have e : readT t = Nm.zero := by
      by_cases h2 : t.l.length = 2
      · unfold readT
        rw [if_neg (fun h4 => hk ⟨h4, h2⟩)]
      · exact readT_len h2
    rw [e]
    exact read_len t cs w h hk
end Go.Proofs.YtlbpodddokhmaaaDoor.Itm
