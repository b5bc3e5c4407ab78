/-
  The walk of the reference's Of.
  Conditions: at most 200 items and bytes.
-/
import Derived.Test.YthoickghfjgmmaaItm13
namespace Go.Proofs.Ythoickghfjgmmaa.Itm
open Go.ChangeShapes Go.WideShapes Go.ChangeAt Go.RowKit Go.Deep Go.Great Go.Proofs.Ythoickghfjgmmaa.Eid
theorem runLdMid {P : Program} {o : Oper} {a : Act} {w : World} (ty : TypeId) (x : Operand) (ho : o.op = .load ty x) (b f : Nat) (hx : a.eval x = .pointer (some ⟨b, f, none⟩)) (c : Array Value) (hc : w.rangeAt b f c.toList) (d : TypeDesc) (hu : P.underlying ty = some d) (hd : d.isRow = true) (hi : (P.info? ty).map (·.size) = some c.size) :
    (execOp a.eval o).run P w = .ok (.value (.agg c)) w := by
  unfold execOp
  simp only [ho, hx, Instr.loadAt, Instr.sureAddr, Sem.run_bind, Sem.run_pure, Result.andThen_ok, run_loadVar_mid w b f ty c.toList d hc hu hd (by simpa using hi)]
theorem runIdxE {o : Oper} {a : Act} {w : World} (x y : Operand) (ho : o.op = .indexAddr 100 x y) (b n c i : Nat) (hx : a.eval x = .slice (some ⟨b, 0, none⟩) n c) (hy : a.eval y = .int .i64 (i : Int)) (hi : i < n) :
    (execOp a.eval o).run Try.prog w = .ok (.value (.pointer (some ⟨b, i * 4, none⟩))) w := by
  have hlt : (i : Int) < (n : Int) := by omega
  unfold execOp
  simp only [ho, hx, hy]
  go_simp
theorem runEqS {o : Oper} {a : Act} {w : World} (x y : Operand) (tp : TypeId) (ho : o.op = .binOp .eql 9 x y tp) (l r : List UInt8) (hx : a.eval x = .string (B l)) (hy : a.eval y = .string (B r)) :
    (execOp a.eval o).run Try.prog w = .ok (.value (.bool (decide (l = r)))) w := by
  unfold execOp
  simp only [ho, hx, hy]
  go_simp
  rw [Bool.eq_iff_iff]
  simp
theorem runBldE1 {o : Oper} {a : Act} {w : World} (x : Operand) {x0 x1 x2 x3 : Value} (ho : o.op = .buildSlice 100 1 #[(0, x)]) (hx : a.eval x = .agg #[x0, x1, x2, x3]) :
    (execOp a.eval o).run Try.prog w = .ok (.value (.slice (some ⟨w.heap.size, 0, none⟩) 1 1)) (w.alloc (.cells #[x0, x1, x2, x3] 30)) := by
  unfold execOp
  simp only [ho, List.map_toArray, List.map_cons, List.map_nil, hx]
  go_simp
def RofR (t : Tr) (e : Ending) : Prop := ∃ (m : Nm) (k : Nat), e = .returned (.tuple #[nmV m, .int .i64 k]) ∧ ((k = 0 ∧ OfP t m) ∨ (k = 2 ∧ m = Nm.zero ∧ ¬ OfP t (readT t)))
set_option maxHeartbeats 1600000 in
set_option maxRecDepth 100000 in
theorem rOf_no (t : Tr) (cs : List Value) (w : World) (h : TAt w t cs) (hr : rightT 8 t = false ∨ ¬ t.l.length = 2) : Calls Try.prog 31 #[.agg cs.toArray] w fun e w' => RofR t e ∧ Below w.heap.size w w' := by
  have HP : Hid (RofR t (.returned (.tuple #[nmV Nm.zero, .int .i64 (2 : Nat)]))) := Lib.hid ⟨_, _, rfl, .inr ⟨rfl, rfl, fun ⟨h1, h2, h3⟩ => by
    rcases hr with hr | hr
    · rw [h2] at hr; cases hr
    · exact hr (by rw [h3]; rfl)⟩⟩
  have HR := Lib.hid fun (W : World) (hb : Below w.heap.size w W) => rRight_item t cs W (h.keep hb (Nat.le_refl _))
  obtain ⟨a, c, C, hcs, _, _, hll, _⟩ := box_item h
  obtain ⟨n, hn⟩ : ∃ n, t.l.length = n := ⟨_, rfl⟩
  rw [hn] at hcs hr hll
  have H3 : Hid (cs.toArray[3]? = some (.slice a n c)) := Lib.hid (by rw [hcs]; rfl)
  have h5 : cs.toArray.size = 5 := by rw [hcs]; rfl
  generalize cs.toArray = X at *
  have H5 := Lib.hid h5
  have HRR := Lib.hid hr
  generalize rightT 8 t = rr at *
  clear hcs h5 h hr hn hll
  go_enter Try.func31, Try.ntmps31
  go_wp2_with (with_reducible refine stop_load 52 rfl ?_)
  obtain ⟨w1, hw1⟩ : ∃ w1, (w.alloc (.cells X 52)).alloc (.cells #[.int .i64 0, .string ⟨#[]⟩, .int .u64 0, .int .u64 0] 30) = w1 := ⟨_, rfl⟩
  have gS : w1.heap.size = w.heap.size + 1 + 1 := by rw [← hw1]; show ((w.heap.push _).push _).size = _; simp
  have gb : Below w.heap.size w w1 := by rw [← hw1]; exact ((Below.refl _ _).alloc (Nat.le_refl _) _).alloc (by show w.heap.size ≤ (w.heap.push _).size; simp) _
  have q0 : w1.heap[w.heap.size]? = some (.cells X 52 (0, 0)) := by rw [← hw1]; exact heap_under (heap_alloc_last w _)
  have q1 : w1.heap[w.heap.size + 1]? = some (.cells #[.int .i64 0, .string ⟨#[]⟩, .int .u64 0, .int .u64 0] 30 (0, 0)) := by rw [← hw1]; exact heap_at (by show (w.heap.push _).size = _; simp)
  rw [hw1]
  clear hw1
  refine load_mid 52 (.tmp 1) rfl rfl (some 7) rfl w.heap.size 0 rfl X (rangeAt_row q0) _ Try.underlying52 rfl (by rw [H5.out]; exact infoI) ?_
  have Q1 := Lib.hid q1
  have Q0 := Lib.hid q0
  have GB := Lib.hid gb
  clear q0 q1 gb
  go_wp2_with fail
  refine (HR.out _ GB.out).mono ?_
  rintro e w2 ⟨rfl, hb2⟩
  have B2 := Lib.hid hb2
  have hs2 := hb2.size
  have c3 : w2.cell? ⟨w.heap.size, 3, Option.none⟩ = some (.slice a n c) := by rw [cell_of_row _ _ _ _ _ _ (heap_below hb2 (by omega) Q0.out)]; exact H3.out
  clear hb2
  cases rr with
  | false =>
    go_wp2_with (with_reducible refine stop_store 30 rfl ?_)
    refine store_row 30 (.tmp 2) (.tmp 16) rfl rfl rfl (w.heap.size + 1) #[.int .i64 0, .string ⟨#[]⟩, .int .u64 0, .int .u64 0] rfl rfl 30 _ (heap_below B2.out (by omega) Q1.out) infoE rfl (by simp [Value.oneCell']) ?_
    go_wp2
    exact post_row_tmp (w.heap.size + 1) Try.results31 30 _ _ (.int .i64 2) rfl rfl (setRow_heap _ _ _ _ _ _ (heap_below B2.out (by omega) Q1.out)) Try.underlying30 rfl infoE rfl ⟨HP.out, setRow_below _ (by omega) (GB.out.trans ((B2.out).mono (by omega)))⟩
  | true =>
    have hn2 : ¬ (n : Int) = 2 := fun h => by
      rcases HRR.out with h8 | h8
      · cases h8
      · exact h8 (by omega)
    go_wp2_with (with_reducible refine stop_store 30 rfl ?_)
    refine store_row 30 (.tmp 2) (.tmp 16) rfl rfl rfl (w.heap.size + 1) #[.int .i64 0, .string ⟨#[]⟩, .int .u64 0, .int .u64 0] rfl rfl 30 _ (heap_below B2.out (by omega) Q1.out) infoE rfl (by simp [Value.oneCell']) ?_
    go_wp2
    exact post_row_tmp (w.heap.size + 1) Try.results31 30 _ _ (.int .i64 2) rfl rfl (setRow_heap _ _ _ _ _ _ (heap_below B2.out (by omega) Q1.out)) Try.underlying30 rfl infoE rfl ⟨HP.out, setRow_below _ (by omega) (GB.out.trans ((B2.out).mono (by omega)))⟩
theorem flat_get {ms : List Nm} : ∀ {i j : Nat} {m : Nm}, ms[i]? = some m → j < 4 → (ms.flatMap nmCells)[i * 4 + j]? = (nmCells m)[j]? := by
  induction ms with
  | nil => intro i j m h; simp at h
  | cons x ms ih =>
    intro i j m h hj
    rw [List.flatMap_cons]
    cases i with
    | zero =>
      simp only [List.getElem?_cons_zero, Option.some.injEq] at h
      subst h
      rw [List.getElem?_append_left (by simp [nmCells]; omega)]
      simp
    | succ i =>
      simp only [List.getElem?_cons_succ] at h
      rw [List.getElem?_append_right (by simp [nmCells]; omega)]
      rw [show (i + 1) * 4 + j - (nmCells x).length = i * 4 + j by simp [nmCells]; omega]
      exact ih h hj
theorem tries_bound {w : World} {y : Tr} {cs : List Value} (h : TAt w y cs) : ∀ m ∈ triesT y, m.n < W64 ∧ m.v < W64 := by
  obtain ⟨_, _, C, _, _, _, _, hel⟩ := box_item h
  intro m hm
  unfold triesT at hm
  split at hm
  · next p q hpq =>
    rw [hpq] at hel
    obtain ⟨_, _, _, _, _, hp, _⟩ := hel 0 p rfl
    obtain ⟨_, _, _, _, _, hq, _⟩ := hel 1 q rfl
    obtain ⟨_, _, _, _, hpn, _⟩ := box_item hp
    obtain ⟨_, _, _, _, hqn, _⟩ := box_item hq
    simp only [List.mem_cons, List.mem_nil_iff, or_false] at hm
    rcases hm with rfl | rfl | rfl
    · decide
    · exact ⟨(by decide : 0 < W64), (by decide : 0 < W64)⟩
    · exact ⟨hpn, hqn⟩
  · simp only [List.mem_cons, List.mem_nil_iff, or_false] at hm
    rcases hm with rfl | rfl
    · decide
    · exact ⟨(by decide : 0 < W64), (by decide : 0 < W64)⟩
set_option maxHeartbeats 3200000 in
set_option maxRecDepth 100000 in
theorem rOf_yes (t x y : Tr) (cs : List Value) (w : World) (h : TAt w t cs) (hsz : szT t ≤ 200) (hr : rightT 8 t = true) (htl : t.l = [x, y]) : Calls Try.prog 31 #[.agg cs.toArray] w fun e w' => RofR t e ∧ Below w.heap.size w w' := by
  have hpl : plainB t = true := by
    have := rightT_eq 8 t
    rw [hr] at this
    exact (Bool.and_eq_true_iff.1 this.symm).2
  have HEQ : Hid (∀ (m : Nm), m.right = true → m.n < W64 ∧ m.v < W64 → (bytesB m.tree = bytesB t ↔ m.tree = t)) := Lib.hid fun m hm hb => bytes_eq (tree_plain m) hpl (by
    have hl := right_len hm
    have hq : ∀ n, n < W64 → NOk (numT n) := fun n hn => (tat_num w n hn).nok
    unfold Nm.tree nameT arrT
    refine .mk _ _ _ _ _ (by decide) (by decide) fun i z hz => ?_
    match i, hz with
    | 0, hz =>
      simp only [List.getElem?_cons_zero, Option.some.injEq] at hz
      subst hz
      exact hq _ (by rcases right_scheme hm with h1 | h1 <;> (rw [h1]; decide))
    | 1, hz =>
      simp only [List.getElem?_cons_succ, List.getElem?_cons_zero, Option.some.injEq] at hz
      subst hz
      unfold twoT arrT
      split
      · refine .mk _ _ _ _ _ (by decide) (by decide) fun i z hz => ?_
        match i, hz with
        | 0, hz => simp only [List.getElem?_cons_zero, Option.some.injEq] at hz; subst hz; exact hq _ hb.1
        | 1, hz => simp only [List.getElem?_cons_succ, List.getElem?_cons_zero, Option.some.injEq] at hz; subst hz; exact hq _ hb.2
      · split
        · exact hq 0 (by decide)
        · exact (tat_text w m.l (by unfold R47; omega)).nok) h.nok
  have HGOOD : Hid (∀ (m : Nm), m.right = true → m.n < W64 ∧ m.v < W64 → bytesB m.tree = bytesB t → RofR t (.returned (.tuple #[nmV m, .int .i64 (0 : Nat)]))) := Lib.hid fun m hm hb he => ⟨m, 0, rfl, .inl ⟨rfl, hm, hr, ((HEQ.out m hm hb).1 he).symm⟩⟩
  obtain ⟨hrb1, hrb2, hrb3⟩ := readT_bound h
  have HBAD : Hid ((∀ (j : Nat) (m : Nm), (triesT y)[j]? = some m → ¬ (m.right = true ∧ bytesB m.tree = bytesB t)) → RofR t (.returned (.tuple #[nmV Nm.zero, .int .i64 (2 : Nat)]))) := Lib.hid fun hno => ⟨_, _, rfl, .inr ⟨rfl, rfl, fun ⟨h1, h2, h3⟩ => by
    obtain ⟨j, hj, hje⟩ := List.getElem_of_mem (mem_tries htl h1 h3)
    exact hno j _ (by rw [List.getElem?_eq_getElem hj, hje]) ⟨h1, by rw [← h3]⟩⟩⟩
  have HR := Lib.hid fun (W : World) (hb : Below w.heap.size w W) => rRight_item t cs W (h.keep hb (Nat.le_refl _))
  have HBT := Lib.hid fun (W : World) (hb : Below w.heap.size w W) => Bytes_any h W hb hpl hsz
  rw [hr] at HR
  obtain ⟨a, c, C, hcs, _, _, hll, hel⟩ := box_item h
  rw [htl] at hcs hel hll
  obtain ⟨b, f, rfl, hbl, hr1, h1, _⟩ := hel 1 y rfl
  have HTB := Lib.hid (tries_bound h1)
  have htl3 := tries_len y
  obtain ⟨a1, d1, C1, hC1, _, _, _, hel1⟩ := box_item h1
  obtain ⟨ny, hny⟩ : ∃ ny, y.l.length = ny := ⟨_, rfl⟩
  rw [hny] at hC1
  have HY2 : Hid (ny = 2 → ∃ b1 f1 pn qn, a1 = some ⟨b1, f1, Option.none⟩ ∧ b1 < w.heap.size ∧ w.cell? ⟨b1, f1 + 1, Option.none⟩ = some (.int .u64 (pn : Nat)) ∧ w.cell? ⟨b1, f1 + 5 + 1, Option.none⟩ = some (.int .u64 (qn : Nat)) ∧ triesT y = [Nm.none, ⟨1, y.s, 0, 0⟩, ⟨2, [], pn, qn⟩]) := Lib.hid fun h2 => by
    rw [h2] at hny
    match hyl : y.l, hny with
    | [p, q], _ =>
      rw [hyl] at hel1
      obtain ⟨b1, f1, rfl, hbl1, hr2, h2, _⟩ := hel1 0 p rfl
      obtain ⟨_, _, hq, _, hr3, h3, _⟩ := hel1 1 q rfl
      injection hq with hq; injection hq with hq1 hq2 _
      subst hq1 hq2
      obtain ⟨a2, d2, C2, hC2, _⟩ := box_item h2
      obtain ⟨a3, d3, C3, hC3, _⟩ := box_item h3
      rw [hC2] at hr2
      rw [hC3] at hr3
      obtain ⟨_, hp1, _, _, _⟩ := range5 hr2
      obtain ⟨_, hp2, _, _, _⟩ := range5 hr3
      simp only [Nat.zero_mul, Nat.add_zero, Nat.one_mul] at hp1 hp2
      exact ⟨b1, f1, p.n, q.n, rfl, hbl1, hp1, hp2, by unfold triesT; rw [hyl]⟩
  have HY1 : Hid (¬ ny = 2 → triesT y = [Nm.none, ⟨1, y.s, 0, 0⟩]) := Lib.hid fun h2 => tries_two (by rw [hny]; exact h2)
  rw [hC1] at hr1
  have HR1 := Lib.hid hr1
  have H3 : Hid (cs.toArray[3]? = some (.slice (some ⟨b, f, Option.none⟩) 2 c)) := Lib.hid (by rw [hcs]; rfl)
  have h5 : cs.toArray.size = 5 := by rw [hcs]; rfl
  generalize cs.toArray = X at *
  have H5 := Lib.hid h5
  clear hcs h5 h hr hll hel hr1 h1 hC1 hel1 hny hpl htl hsz hrb1 hrb2 hrb3 HEQ
  generalize triesT y = tr at *
  generalize y.k = k1 at *
  generalize y.n = n1 at *
  generalize y.s = s1 at *
  generalize y.o = o1 at *
  generalize bytesB t = bt at *
  go_enter Try.func31, Try.ntmps31
  go_wp2_with (with_reducible refine stop_load 52 rfl ?_)
  obtain ⟨w1, hw1⟩ : ∃ w1, (w.alloc (.cells X 52)).alloc (.cells #[.int .i64 0, .string ⟨#[]⟩, .int .u64 0, .int .u64 0] 30) = w1 := ⟨_, rfl⟩
  have gS : w1.heap.size = w.heap.size + 1 + 1 := by rw [← hw1]; show ((w.heap.push _).push _).size = _; simp
  have gb : Below w.heap.size w w1 := by rw [← hw1]; exact ((Below.refl _ _).alloc (Nat.le_refl _) _).alloc (by show w.heap.size ≤ (w.heap.push _).size; simp) _
  have q0 : w1.heap[w.heap.size]? = some (.cells X 52 (0, 0)) := by rw [← hw1]; exact heap_under (heap_alloc_last w _)
  have q1 : w1.heap[w.heap.size + 1]? = some (.cells #[.int .i64 0, .string ⟨#[]⟩, .int .u64 0, .int .u64 0] 30 (0, 0)) := by rw [← hw1]; exact heap_at (by show (w.heap.push _).size = _; simp)
  rw [hw1]
  clear hw1
  refine load_mid 52 (.tmp 1) rfl rfl (some 7) rfl w.heap.size 0 rfl X (rangeAt_row q0) _ Try.underlying52 rfl (by rw [H5.out]; exact infoI) ?_
  have Q1 := Lib.hid q1
  have Q0 := Lib.hid q0
  have GB := Lib.hid gb
  clear q0 q1 gb
  go_wp2_with fail
  refine (HR.out _ GB.out).mono ?_
  rintro e w2 ⟨rfl, hb2⟩
  have B2 := Lib.hid hb2
  have hs2 := hb2.size
  have c3 : w2.cell? ⟨w.heap.size, 3, Option.none⟩ = some (.slice (some ⟨b, f, Option.none⟩) 2 c) := by rw [cell_of_row _ _ _ _ _ _ (heap_below hb2 (by omega) Q0.out)]; exact H3.out
  clear hb2
  go_wp2_with (with_reducible refine stop_load 52 rfl ?_)
  have hb2w : Below w.heap.size w w2 := GB.out.trans (B2.out.mono (by omega))
  have hr2 : w2.rangeAt b (f + 5) [.int .i64 k1, .int .u64 n1, .string (B s1), .slice a1 ny d1, .bool o1] := by
    have := rangeAt_below HR1.out hb2w hbl
    rwa [Nat.one_mul] at this
  refine load_mid 52 (.tmp 19) rfl rfl (some 20) rfl b (f + 5) rfl #[.int .i64 k1, .int .u64 n1, .string (B s1), .slice a1 ny d1, .bool o1] hr2 _ Try.underlying52 rfl infoI ?_
  have HB2W := Lib.hid hb2w
  clear hr2 hb2w
  go_wp2_with (with_reducible refine stop_app 100 rfl ?_)
  obtain ⟨w4, hw4⟩ : ∃ w4, (w2.alloc (.cells #[.int .i64 k1, .int .u64 n1, .string (B s1), .slice a1 ny d1, .bool o1] 52)).alloc (.cells #[.int .i64 1, .string ⟨#[110, 111, 110, 101]⟩, .int .u64 0, .int .u64 0, .int .i64 1, .string (B s1), .int .u64 0, .int .u64 0] 30) = w4 := ⟨_, rfl⟩
  have gS4 : w4.heap.size = w2.heap.size + 1 + 1 := by rw [← hw4]; show ((w2.heap.push _).push _).size = _; simp
  have gb4 : Below w2.heap.size w2 w4 := by rw [← hw4]; exact ((Below.refl _ _).alloc (Nat.le_refl _) _).alloc (by show w2.heap.size ≤ (w2.heap.push _).size; simp) _
  have qy : w4.heap[w2.heap.size]? = some (.cells #[.int .i64 k1, .int .u64 n1, .string (B s1), .slice a1 ny d1, .bool o1] 52 (0, 0)) := by rw [← hw4]; exact heap_under (heap_alloc_last w2 _)
  have qs : w4.heap[w2.heap.size + 1]? = some (.cells #[.int .i64 1, .string ⟨#[110, 111, 110, 101]⟩, .int .u64 0, .int .u64 0, .int .i64 1, .string (B s1), .int .u64 0, .int .u64 0] 30 (0, 0)) := by rw [← hw4]; exact heap_at (by show (w2.heap.push _).size = _; simp)
  rw [hw4]
  clear hw4
  have B4 := Lib.hid (B2.out.trans (gb4.mono hs2))
  have QY := Lib.hid qy
  obtain ⟨base, hbase⟩ : ∃ base, w4.heap.size = base := ⟨_, rfl⟩
  have hgy : w2.heap.size < base := by omega
  have hw1b : w1.heap.size ≤ base := by omega
  have HB4W := Lib.hid (HB2W.out.trans (gb4.mono (by have := HB2W.out.size; omega)))
  have hwb : w.heap.size < base := by omega
  clear gb4 qy
  refine Lib.hid (wpList_plain rfl fun K hK => appE 27 rfl (.tmp 21) (.tmp 26) rfl (.slice none 0 0) [] [Nm.none, ⟨1, s1, 0, 0⟩] base (w2.heap.size + 1) rfl rfl (World.ownsRow_nil _ _ _ _) qs (by simp) (by simp) (by omega) (Below.refl _ _) fun v5 w5 n5 b5 => hK _ _ ?_)
  have N5 := Lib.hid n5
  have B5 := Lib.hid b5
  have hb5 : base ≤ w5.heap.size := by have := b5.size; omega
  have y3 : w5.cell? ⟨w2.heap.size, 3, Option.none⟩ = some (.slice a1 ny d1) := by rw [cell_of_row _ _ _ _ _ _ (heap_below b5 hgy QY.out)]; rfl
  obtain ⟨gy, hgye⟩ : ∃ gy, w2.heap.size = gy := ⟨_, rfl⟩
  rw [hgye] at y3 hgy QY ⊢
  clear n5 b5 qs hK K c3 gS4 hgye
  go_upto_if 31 with fail
  go_cut [5] from 31 (fun s5 wc => Hid (NmsAt wc base s5 tr) ∧ Hid (Below base w4 wc) ∧ base ≤ wc.heap.size)
  case first =>
    by_cases hn2 : ny = 2
    · subst hn2
      obtain ⟨b1, f1, pn, qn, rfl, hb1, hp1, hp2, hte⟩ := HY2.out rfl
      have hb1b : b1 < base := by omega
      have p1 : w5.cell? ⟨b1, f1 + 1, Option.none⟩ = some (.int .u64 (pn : Nat)) := by rw [B5.out.cell (p := ⟨b1, f1 + 1, Option.none⟩) hb1b, HB4W.out.cell (p := ⟨b1, f1 + 1, Option.none⟩) hb1]; exact hp1
      have p2 : w5.cell? ⟨b1, f1 + 5 + 1, Option.none⟩ = some (.int .u64 (qn : Nat)) := by rw [B5.out.cell (p := ⟨b1, f1 + 5 + 1, Option.none⟩) hb1b, HB4W.out.cell (p := ⟨b1, f1 + 5 + 1, Option.none⟩) hb1]; exact hp2
      have hl1 : b1 < w5.heap.size := by omega
      have hlY : gy < w5.heap.size := by omega
      have HTE := Lib.hid hte
      clear hp1 hp2 hte
      go_wp2_with fail
      generalize w5 = w6 at *
      have hEr : ∀ W : World, (fun W W' => Below W.heap.size W W') W W := fun W => Below.refl _ _
      refine wp_region_rel 13 2 6 (fun W => Below w6.heap.size w6 W) [32, 33, 34, 35, 36, 37, 38, 39, 40, 41, 42, 43, 44] (relAt [fun zv _ => zv = v5, fun zv _ => zv = .pointer (some ⟨gy, 3, Option.none⟩), fun zv _ => zv = .slice (some ⟨b1, f1, Option.none⟩) 2 d1, fun zv _ => zv = .pointer (some ⟨b1, f1, Option.none⟩), fun zv _ => zv = .pointer (some ⟨b1, f1 + 1, Option.none⟩), fun zv _ => zv = .int .u64 (pn : Nat), fun zv _ => zv = .pointer (some ⟨gy, 3, Option.none⟩), fun zv _ => zv = .slice (some ⟨b1, f1, Option.none⟩) 2 d1, fun zv _ => zv = .pointer (some ⟨b1, f1 + 5, Option.none⟩), fun zv _ => zv = .pointer (some ⟨b1, f1 + 5 + 1, Option.none⟩), fun zv _ => zv = .int .u64 (qn : Nat), fun zv _ => zv = .agg #[.int .i64 (2 : Nat), .string (B []), .int .u64 (pn : Nat), .int .u64 (qn : Nat)], fun zv W => ∃ g, zv = .slice (some ⟨g, 0, Option.none⟩) 1 1 ∧ W.heap[g]? = some (.cells (([⟨2, [], pn, qn⟩] : List Nm).flatMap nmCells).toArray 30 (0, 0))]) (fun W W' => Below W.heap.size W W') (by kernel_rfl) rfl rfl (by kernel_rfl) (by kernel_rfl) (by kernel_rfl) (by kernel_rfl) (Mono.at ⟨fun _ _ _ _ h => h, fun _ _ _ _ h => h, fun _ _ _ _ h => h, fun _ _ _ _ h => h, fun _ _ _ _ h => h, fun _ _ _ _ h => h, fun _ _ _ _ h => h, fun _ _ _ _ h => h, fun _ _ _ _ h => h, fun _ _ _ _ h => h, fun _ _ _ _ h => h, fun _ _ _ _ h => h, fun _ _ _ hb ⟨g, h1, h2⟩ => ⟨g, h1, heap_below hb (Array.getElem?_eq_some_iff.1 h2).1 h2⟩, trivial⟩) ((Below.refl _ _).drew) ⟨?_, ?_, ?_, ?_, ?_, ?_, ?_, ?_, ?_, ?_, ?_, ?_, ?_, trivial⟩ ?_
      · refine relQuiet 0 rfl rfl hEr (v5) (fun _ => rfl) fun u wq hS hd => ?_
        simp only [fillL, Act.put, List.setIfInBounds_toArray, List.set_cons_zero, List.set_cons_succ]
        first | kernel_rfl | (show _ = _; kernel_rfl)
      · refine relQuiet 1 rfl rfl hEr (.pointer (some ⟨gy, 3, Option.none⟩)) (fun _ => rfl) fun u wq hS hd => ?_
        simp only [fillL, Act.put, List.setIfInBounds_toArray, List.set_cons_zero, List.set_cons_succ]
        first | kernel_rfl | (show _ = _; kernel_rfl)
      · refine relQuiet 2 rfl rfl hEr (.slice (some ⟨b1, f1, Option.none⟩) 2 d1) (fun _ => rfl) fun u wq hS hd => ?_
        have h1 : u 1 = .pointer (some ⟨gy, 3, Option.none⟩) := hd 1 (by kernel_rfl)
        simp only [fillL, Act.put, List.setIfInBounds_toArray, List.set_cons_zero, List.set_cons_succ, h1]
        exact runLdCell (.tmp 33) rfl ⟨gy, 3, Option.none⟩ rfl _ (by rw [hS.cell (p := ⟨gy, 3, Option.none⟩) hlY]; exact y3)
      · refine relQuiet 3 rfl rfl hEr (.pointer (some ⟨b1, f1, Option.none⟩)) (fun _ => rfl) fun u wq hS hd => ?_
        have h2 : u 2 = .slice (some ⟨b1, f1, Option.none⟩) 2 d1 := hd 2 (by kernel_rfl)
        simp only [fillL, Act.put, List.setIfInBounds_toArray, List.set_cons_zero, List.set_cons_succ, h2]
        first | kernel_rfl | (show _ = _; kernel_rfl)
      · refine relQuiet 4 rfl rfl hEr (.pointer (some ⟨b1, f1 + 1, Option.none⟩)) (fun _ => rfl) fun u wq hS hd => ?_
        have h3 : u 3 = .pointer (some ⟨b1, f1, Option.none⟩) := hd 3 (by kernel_rfl)
        simp only [fillL, Act.put, List.setIfInBounds_toArray, List.set_cons_zero, List.set_cons_succ, h3]
        first | kernel_rfl | (show _ = _; kernel_rfl)
      · refine relQuiet 5 rfl rfl hEr (.int .u64 (pn : Nat)) (fun _ => rfl) fun u wq hS hd => ?_
        have h4 : u 4 = .pointer (some ⟨b1, f1 + 1, Option.none⟩) := hd 4 (by kernel_rfl)
        simp only [fillL, Act.put, List.setIfInBounds_toArray, List.set_cons_zero, List.set_cons_succ, h4]
        exact runLdU64 (.tmp 36) rfl ⟨b1, f1 + 1, Option.none⟩ rfl _ (by rw [hS.cell (p := ⟨b1, f1 + 1, Option.none⟩) hl1]; exact p1)
      · refine relQuiet 6 rfl rfl hEr (.pointer (some ⟨gy, 3, Option.none⟩)) (fun _ => rfl) fun u wq hS hd => ?_
        simp only [fillL, Act.put, List.setIfInBounds_toArray, List.set_cons_zero, List.set_cons_succ]
        first | kernel_rfl | (show _ = _; kernel_rfl)
      · refine relQuiet 7 rfl rfl hEr (.slice (some ⟨b1, f1, Option.none⟩) 2 d1) (fun _ => rfl) fun u wq hS hd => ?_
        have h6 : u 6 = .pointer (some ⟨gy, 3, Option.none⟩) := hd 6 (by kernel_rfl)
        simp only [fillL, Act.put, List.setIfInBounds_toArray, List.set_cons_zero, List.set_cons_succ, h6]
        exact runLdCell (.tmp 38) rfl ⟨gy, 3, Option.none⟩ rfl _ (by rw [hS.cell (p := ⟨gy, 3, Option.none⟩) hlY]; exact y3)
      · refine relQuiet 8 rfl rfl hEr (.pointer (some ⟨b1, f1 + 5, Option.none⟩)) (fun _ => rfl) fun u wq hS hd => ?_
        have h7 : u 7 = .slice (some ⟨b1, f1, Option.none⟩) 2 d1 := hd 7 (by kernel_rfl)
        simp only [fillL, Act.put, List.setIfInBounds_toArray, List.set_cons_zero, List.set_cons_succ, h7]
        first | kernel_rfl | (show _ = _; kernel_rfl)
      · refine relQuiet 9 rfl rfl hEr (.pointer (some ⟨b1, f1 + 5 + 1, Option.none⟩)) (fun _ => rfl) fun u wq hS hd => ?_
        have h8 : u 8 = .pointer (some ⟨b1, f1 + 5, Option.none⟩) := hd 8 (by kernel_rfl)
        simp only [fillL, Act.put, List.setIfInBounds_toArray, List.set_cons_zero, List.set_cons_succ, h8]
        first | kernel_rfl | (show _ = _; kernel_rfl)
      · refine relQuiet 10 rfl rfl hEr (.int .u64 (qn : Nat)) (fun _ => rfl) fun u wq hS hd => ?_
        have h9 : u 9 = .pointer (some ⟨b1, f1 + 5 + 1, Option.none⟩) := hd 9 (by kernel_rfl)
        simp only [fillL, Act.put, List.setIfInBounds_toArray, List.set_cons_zero, List.set_cons_succ, h9]
        exact runLdU64 (.tmp 41) rfl ⟨b1, f1 + 5 + 1, Option.none⟩ rfl _ (by rw [hS.cell (p := ⟨b1, f1 + 5 + 1, Option.none⟩) hl1]; exact p2)
      · refine relQuiet 11 rfl rfl hEr (.agg #[.int .i64 (2 : Nat), .string (B []), .int .u64 (pn : Nat), .int .u64 (qn : Nat)]) (fun _ => rfl) fun u wq hS hd => ?_
        have h5 : u 5 = .int .u64 (pn : Nat) := hd 5 (by kernel_rfl)
        have h10 : u 10 = .int .u64 (qn : Nat) := hd 10 (by kernel_rfl)
        simp only [fillL, Act.put, List.setIfInBounds_toArray, List.set_cons_zero, List.set_cons_succ, h5, h10]
        first | kernel_rfl | (show _ = _; kernel_rfl)
      · refine relRun 12 rfl rfl fun u wq hS hd => ?_
        have h11 : u 11 = .agg #[.int .i64 (2 : Nat), .string (B []), .int .u64 (pn : Nat), .int .u64 (qn : Nat)] := hd 11 (by kernel_rfl)
        simp only [fillL, Act.put, List.setIfInBounds_toArray, List.set_cons_zero, List.set_cons_succ, h11]
        exact ⟨_, _, runBldE1 (.tmp 43) rfl rfl, hS.alloc hS.size _, (Below.refl _ _).alloc (Nat.le_refl _) _, _, rfl, heap_alloc_last _ _⟩
      intro u w7 hS hv
      have h0 : u 0 = v5 := hv 0 (by decide)
      have h1 : u 1 = .pointer (some ⟨gy, 3, Option.none⟩) := hv 1 (by decide)
      have h2 : u 2 = .slice (some ⟨b1, f1, Option.none⟩) 2 d1 := hv 2 (by decide)
      have h3 : u 3 = .pointer (some ⟨b1, f1, Option.none⟩) := hv 3 (by decide)
      have h4 : u 4 = .pointer (some ⟨b1, f1 + 1, Option.none⟩) := hv 4 (by decide)
      have h5 : u 5 = .int .u64 (pn : Nat) := hv 5 (by decide)
      have h6 : u 6 = .pointer (some ⟨gy, 3, Option.none⟩) := hv 6 (by decide)
      have h7 : u 7 = .slice (some ⟨b1, f1, Option.none⟩) 2 d1 := hv 7 (by decide)
      have h8 : u 8 = .pointer (some ⟨b1, f1 + 5, Option.none⟩) := hv 8 (by decide)
      have h9 : u 9 = .pointer (some ⟨b1, f1 + 5 + 1, Option.none⟩) := hv 9 (by decide)
      have h10 : u 10 = .int .u64 (qn : Nat) := hv 10 (by decide)
      have h11 : u 11 = .agg #[.int .i64 (2 : Nat), .string (B []), .int .u64 (pn : Nat), .int .u64 (qn : Nat)] := hv 11 (by decide)
      have h12 : (fun zv W => ∃ g, zv = .slice (some ⟨g, 0, Option.none⟩) 1 1 ∧ W.heap[g]? = some (.cells (([⟨2, [], pn, qn⟩] : List Nm).flatMap nmCells).toArray 30 (0, 0))) (u 12) w7 := hv 12 (by decide)
      obtain ⟨g12, e12, c12⟩ := h12
      simp only [fillL, Act.put, List.setIfInBounds_toArray, List.set_cons_zero, List.set_cons_succ, h0, h1, h2, h3, h4, h5, h6, h7, h8, h9, h10, h11, e12]
      clear hEr hv h0 h1 h2 h3 h4 h5 h6 h7 h8 h9 h10 h11 e12
      clear u
      refine wpAny_of_held (S := fun _ => True) _ _ _ _ ?_
      refine oneH 13 rfl rfl (by kernel_rfl) fun K hK => ?_
      refine appE 45 rfl (.tmp 32) (.tmp 44) rfl v5 [Nm.none, ⟨1, s1, 0, 0⟩] [⟨2, [], pn, qn⟩] base g12 rfl rfl (N5.out.below (hS.mono (Nat.le_refl _))) c12 (by simp) (by simp) (by have := hS.size; omega) (B5.out.trans (hS.mono hb5)) fun v8 w8 N8 B8 => ?_
      refine hK _ _ trivial fun _ => ?_
      clear hK K
      simp only [Act.put, List.setIfInBounds_toArray, List.set_cons_zero, List.set_cons_succ]
      refine oneH 14 rfl rfl (by kernel_rfl) fun K hK => ?_
      refine wpH_same (some 5) rfl (v8) (by kernel_rfl) ?_
      simp only [Act.put, List.setIfInBounds_toArray, List.set_cons_zero, List.set_cons_succ]
      refine hK _ _ trivial fun _ => ?_
      clear hK K
      refine wpAnyH_done (by kernel_rfl) ?_ _
      have N9 : Hid (NmsAt w8 base v8 tr) := Lib.hid (by rw [HTE.out]; exact N8)
      have B9 := Lib.hid B8
      have hb9 : base ≤ w8.heap.size := by have := B8.size; omega
      clear N8 B8 hS c12 p1 p2 y3
      go_wp2
      go_meet
      case rel => exact ⟨N9, B9, hb9⟩
    · have hn2' : ¬ (ny : Int) = 2 := by omega
      have N9 : Hid (NmsAt w5 base v5 tr) := Lib.hid (by rw [HY1.out hn2]; exact N5.out)
      clear hn2
      go_wp2
      go_meet
      case rel => exact ⟨N9, B5, hb5⟩
  case rest =>
    obtain ⟨NC, BC, hbc⟩ := hcut
    obtain ⟨n, hn⟩ : ∃ n, tr.length = n := ⟨_, rfl⟩
    have hn1 : 0 < n := by
      rw [← hn]
      by_cases h2 : ny = 2
      · obtain ⟨_, _, _, _, _, _, _, _, he⟩ := HY2.out h2
        rw [he]; simp
      · rw [HY1.out h2]; simp
    obtain ⟨g, cap, cur, hv, hbg, hgc, hncap, hcapm, _, htake⟩ := NC.out.2.resolve_left (fun h => by omega)
    have HRG : Hid (∀ (i : Nat) (m : Nm), tr[i]? = some m → wc.rangeAt g (i * 4) (nmCells m)) := Lib.hid fun i m hi j v hj => by
      have hi' : i < tr.length := (List.getElem?_eq_some_iff.1 hi).1
      have hj' : j < 4 := (List.getElem?_eq_some_iff.1 hj).1
      rw [cell_of_row _ _ _ _ _ _ hgc, ← Array.getElem?_toList]
      have h1 : (cur.toList.take (tr.length * 4))[i * 4 + j]? = (tr.flatMap nmCells)[i * 4 + j]? := by rw [htake]
      rw [List.getElem?_take_of_lt (by omega), flat_get hi hj', hj] at h1
      exact h1
    have hml : n ≤ 9223372036854775807 := by omega
    have hgl : g < wc.heap.size := (Array.getElem?_eq_some_iff.1 hgc).1
    rw [hn] at hv
    subst hv
    have HN := Lib.hid hn
    have BCW := Lib.hid (B4.out.trans (BC.out.mono hw1b))
    clear hn hgc htake y3 hcapm hncap NC N5 B5 HY1 HY2 HR HR1 QY
    go_wp2_with fail
    go_loopw [6] (fun s6 wr => ∃ i : Nat, i ≤ n ∧ s6 = .int .i64 (i : Int) ∧ Hid (∀ (j : Nat) (m : Nm), j < i → tr[j]? = some m → ¬ (m.right = true ∧ bytesB m.tree = bt)) ∧ Below wc.heap.size wc wr) (fun s _ => n - (intOf s).toNat)
    case atStart => exact ⟨0, by omega, rfl, Lib.hid (fun j m hj => by omega), Below.refl _ _⟩
    case round =>
      obtain ⟨i, hi, rfl, HNO, hb⟩ := hrel
      have hbs := hb.size
      have hszc := BCW.out.size
      have HW1R := Lib.hid (BCW.out.trans (hb.mono hszc))
      have HWR := Lib.hid (GB.out.trans (HW1R.out.mono (by omega)))
      have HB := Lib.hid hb
      by_cases hend : i = n
      · have hlt : ¬ (i : Int) < (n : Int) := by omega
        have HFIN := Lib.hid (HBAD.out fun j m hj => HNO.out j m (by have := (List.getElem?_eq_some_iff.1 hj).1; rw [HN.out] at this; omega) hj)
        clear hend hb
        go_wp2_with (with_reducible refine stop_store 30 rfl ?_)
        refine store_row 30 (.tmp 2) (.tmp 72) rfl rfl rfl (w.heap.size + 1) #[.int .i64 0, .string ⟨#[]⟩, .int .u64 0, .int .u64 0] rfl rfl 30 _ (heap_below HW1R.out (by omega) Q1.out) infoE rfl (by simp [Value.oneCell']) ?_
        go_wp2
        exact post_row_tmp (w.heap.size + 1) Try.results31 30 _ _ (.int .i64 2) rfl rfl (setRow_heap _ _ _ _ _ _ (heap_below HW1R.out (by omega) Q1.out)) Try.underlying30 rfl infoE rfl ⟨HFIN.out, setRow_below _ (by omega) (GB.out.trans ((HW1R.out).mono (by omega)))⟩
      · have hin : i < n := by omega
        have hlt : (i : Int) < (n : Int) := by omega
        obtain ⟨m, hm⟩ : ∃ m, tr[i]? = some m := ⟨tr[i]'(by rw [HN.out]; omega), List.getElem?_eq_getElem (by rw [HN.out]; omega)⟩
        have hg : g < wr.heap.size := by omega
        have HMB := Lib.hid (HTB.out m (List.mem_of_getElem? hm))
        have RG := Lib.hid (rangeAt_below (HRG.out i m hm) hb hgl)
        have hXs : w.heap.size < wr.heap.size := by omega
        have QX := Lib.hid (heap_below HW1R.out (by omega) Q0.out)
        have HNEXT : Hid (¬ (m.right = true ∧ bytesB m.tree = bt) → ∀ (j : Nat) (m : Nm), j < i + 1 → tr[j]? = some m → ¬ (m.right = true ∧ bytesB m.tree = bt)) := Lib.hid fun hno j m' hj hm' => by
          by_cases hji : j = i
          · subst hji
            rw [hm] at hm'
            rw [← Option.some.inj hm']
            exact hno
          · exact HNO.out j m' (by omega) hm'
        have HGM := Lib.hid (HGOOD.out m)
        have HRT0 : Hid (∀ W : World, Calls Try.prog 20 #[.agg #[.int .i64 m.s, .string (B m.l), .int .u64 m.n, .int .u64 m.v]] W fun e w' => e = .returned (.bool m.right) ∧ Below W.heap.size W w') := Lib.hid fun W => rRight_any m.s m.l m.n m.v W
        have HIT0 : Hid (m.right = true → ∀ W : World, Calls Try.prog 63 #[.agg #[.int .i64 m.s, .string (B m.l), .int .u64 m.n, .int .u64 m.v]] W fun e w' => ∃ ds, e = .returned (.agg (List.toArray ds)) ∧ TAt w' m.tree ds ∧ Below W.heap.size W w') := Lib.hid fun hr W => (rItem_any m.s m.l m.n m.v W (right_scheme hr) (by have := right_len hr; unfold R47; omega) HMB.out.1 HMB.out.2).mono fun e w' h => h
        have HBY0 : Hid (m.right = true → ∀ (W : World) (ds : List Value), TAt W m.tree ds → Calls Try.prog 62 #[.agg ds.toArray] W fun e w' => e = .returned (.string (B (bytesB m.tree))) ∧ Below W.heap.size W w') := Lib.hid fun hr W ds ht => Bytes_any ht W (Below.refl _ _) (tree_plain m) (tree_size hr)
        have HNM : Hid (nmV m = .agg #[.int .i64 m.s, .string (B m.l), .int .u64 m.n, .int .u64 m.v] ∧ nmCells m = [.int .i64 m.s, .string (B m.l), .int .u64 m.n, .int .u64 m.v]) := Lib.hid ⟨rfl, rfl⟩
        rw [HNM.out.1] at HGM
        rw [HNM.out.2] at RG
        obtain ⟨mt, hmt⟩ : ∃ mt, m.tree = mt := ⟨_, rfl⟩
        rw [hmt] at HGM HIT0 HBY0 HNEXT
        clear hend hm hb hmt HNO HRG HTB HNM
        generalize hk : m.right = k at *
        generalize m.s = ms at *
        generalize m.l = ml at *
        generalize m.n = mn at *
        generalize m.v = mv at *
        clear hk
        cases k with
        | false =>
          have HNX := Lib.hid (HNEXT.out (by simp))
          have HRT := HRT0
          clear HIT0 HBY0 HGM HNEXT HRT0
          go_wp2_with fail
          have hEr : ∀ W : World, (fun W W' => Below W.heap.size W W') W W := fun W => Below.refl _ _
          refine wp_region_rel 16 0 0 (fun W => Below wr.heap.size wr W) [52, 53, 54, 55, 56, 57, 58, 59, 60, 61, 62, 63, 64, 65, 66, 67] (relAt [fun zv _ => zv = .slice (some ⟨g, 0, Option.none⟩) n cap, fun zv _ => zv = .int .i64 (i : Int), fun zv _ => zv = .pointer (some ⟨g, i * 4, Option.none⟩), fun zv _ => zv = .agg #[.int .i64 ms, .string (B ml), .int .u64 mn, .int .u64 mv], fun zv _ => zv = .bool false, fun zv _ => zv = .bool false, fun zv _ => zv = undef, fun zv _ => zv = undef, fun zv _ => zv = undef, fun zv _ => zv = undef, fun zv _ => zv = undef, fun zv _ => zv = undef, fun zv _ => zv = undef, fun zv _ => zv = undef, fun zv _ => zv = undef, fun zv _ => zv = .bool false]) (fun W W' => Below W.heap.size W W') (by kernel_rfl) rfl rfl (by kernel_rfl) (by kernel_rfl) (by kernel_rfl) (by kernel_rfl) (Mono.at ⟨fun _ _ _ _ h => h, fun _ _ _ _ h => h, fun _ _ _ _ h => h, fun _ _ _ _ h => h, fun _ _ _ _ h => h, fun _ _ _ _ h => h, fun _ _ _ _ h => h, fun _ _ _ _ h => h, fun _ _ _ _ h => h, fun _ _ _ _ h => h, fun _ _ _ _ h => h, fun _ _ _ _ h => h, fun _ _ _ _ h => h, fun _ _ _ _ h => h, fun _ _ _ _ h => h, fun _ _ _ _ h => h, trivial⟩) ((Below.refl _ _).drew) ⟨?_, ?_, ?_, ?_, ?_, ?_, ?_, ?_, ?_, ?_, ?_, ?_, ?_, ?_, ?_, ?_, trivial⟩ ?_
          · refine relQuiet 0 rfl rfl hEr (.slice (some ⟨g, 0, Option.none⟩) n cap) (fun _ => rfl) fun u wq hS hd => ?_
            simp only [fillL, Act.put, List.setIfInBounds_toArray, List.set_cons_zero, List.set_cons_succ]
            first | kernel_rfl | (show _ = _; kernel_rfl)
          · refine relQuiet 1 rfl rfl hEr (.int .i64 (i : Int)) (fun _ => rfl) fun u wq hS hd => ?_
            simp only [fillL, Act.put, List.setIfInBounds_toArray, List.set_cons_zero, List.set_cons_succ]
            first | kernel_rfl | (show _ = _; kernel_rfl)
          · refine relQuiet 2 rfl rfl hEr (.pointer (some ⟨g, i * 4, Option.none⟩)) (fun _ => rfl) fun u wq hS hd => ?_
            have h0 : u 0 = .slice (some ⟨g, 0, Option.none⟩) n cap := hd 0 (by kernel_rfl)
            have h1 : u 1 = .int .i64 (i : Int) := hd 1 (by kernel_rfl)
            simp only [fillL, Act.put, List.setIfInBounds_toArray, List.set_cons_zero, List.set_cons_succ, h0, h1]
            exact runIdxE (.tmp 52) (.tmp 53) rfl g n cap i rfl rfl hin
          · refine relQuiet 3 rfl rfl hEr (.agg #[.int .i64 ms, .string (B ml), .int .u64 mn, .int .u64 mv]) (fun _ => rfl) fun u wq hS hd => ?_
            have h2 : u 2 = .pointer (some ⟨g, i * 4, Option.none⟩) := hd 2 (by kernel_rfl)
            simp only [fillL, Act.put, List.setIfInBounds_toArray, List.set_cons_zero, List.set_cons_succ, h2]
            exact runLdMid 30 (.tmp 54) rfl g (i * 4) rfl _ (rangeAt_below RG.out hS hg) _ Try.underlying30 rfl infoE
          · refine relCall 4 rfl rfl 20 fun u wq hS hd => ?_
            have h3 : u 3 = .agg #[.int .i64 ms, .string (B ml), .int .u64 mn, .int .u64 mv] := hd 3 (by kernel_rfl)
            simp only [fillL, Act.put, List.setIfInBounds_toArray, List.set_cons_zero, List.set_cons_succ, h3]
            refine ⟨#[.agg #[.int .i64 ms, .string (B ml), .int .u64 mn, .int .u64 mv]], by kernel_rfl, ?_⟩
            refine (HRT.out wq).mono ?_
            rintro e w' ⟨rfl, hb⟩
            exact ⟨_, rfl, hS.trans (hb.mono hS.size), hb, rfl⟩
          · refine relQuiet 5 rfl rfl hEr (.bool false) (fun _ => rfl) fun u wq hS hd => ?_
            have h4 : u 4 = .bool false := hd 4 (by kernel_rfl)
            simp only [fillL, Act.put, List.setIfInBounds_toArray, List.set_cons_zero, List.set_cons_succ, h4]
            first | kernel_rfl | (show _ = _; kernel_rfl)
          · refine relSkip 6 rfl hEr (fun _ => rfl) fun u wq hS hd => ?_
            have h5 : u 5 = .bool false := hd 5 (by kernel_rfl)
            simp only [fillL, Act.put, List.setIfInBounds_toArray, List.set_cons_zero, List.set_cons_succ, h5]
            first | kernel_rfl | (show _ = _; kernel_rfl)
          · refine relSkip 7 rfl hEr (fun _ => rfl) fun u wq hS hd => ?_
            have h5 : u 5 = .bool false := hd 5 (by kernel_rfl)
            simp only [fillL, Act.put, List.setIfInBounds_toArray, List.set_cons_zero, List.set_cons_succ, h5]
            first | kernel_rfl | (show _ = _; kernel_rfl)
          · refine relSkip 8 rfl hEr (fun _ => rfl) fun u wq hS hd => ?_
            have h5 : u 5 = .bool false := hd 5 (by kernel_rfl)
            have h6 : u 6 = undef := hd 6 (by kernel_rfl)
            have h7 : u 7 = undef := hd 7 (by kernel_rfl)
            simp only [fillL, Act.put, List.setIfInBounds_toArray, List.set_cons_zero, List.set_cons_succ, h5, h6, h7]
            first | kernel_rfl | (show _ = _; kernel_rfl)
          · refine relSkip 9 rfl hEr (fun _ => rfl) fun u wq hS hd => ?_
            have h5 : u 5 = .bool false := hd 5 (by kernel_rfl)
            have h8 : u 8 = undef := hd 8 (by kernel_rfl)
            simp only [fillL, Act.put, List.setIfInBounds_toArray, List.set_cons_zero, List.set_cons_succ, h5, h8]
            first | kernel_rfl | (show _ = _; kernel_rfl)
          · refine relSkip 10 rfl hEr (fun _ => rfl) fun u wq hS hd => ?_
            have h5 : u 5 = .bool false := hd 5 (by kernel_rfl)
            have h9 : u 9 = undef := hd 9 (by kernel_rfl)
            simp only [fillL, Act.put, List.setIfInBounds_toArray, List.set_cons_zero, List.set_cons_succ, h5, h9]
            first | kernel_rfl | (show _ = _; kernel_rfl)
          · refine relSkip 11 rfl hEr (fun _ => rfl) fun u wq hS hd => ?_
            have h5 : u 5 = .bool false := hd 5 (by kernel_rfl)
            have h10 : u 10 = undef := hd 10 (by kernel_rfl)
            simp only [fillL, Act.put, List.setIfInBounds_toArray, List.set_cons_zero, List.set_cons_succ, h5, h10]
            first | kernel_rfl | (show _ = _; kernel_rfl)
          · refine relSkip 12 rfl hEr (fun _ => rfl) fun u wq hS hd => ?_
            have h5 : u 5 = .bool false := hd 5 (by kernel_rfl)
            simp only [fillL, Act.put, List.setIfInBounds_toArray, List.set_cons_zero, List.set_cons_succ, h5]
            first | kernel_rfl | (show _ = _; kernel_rfl)
          · refine relSkip 13 rfl hEr (fun _ => rfl) fun u wq hS hd => ?_
            have h5 : u 5 = .bool false := hd 5 (by kernel_rfl)
            have h11 : u 11 = undef := hd 11 (by kernel_rfl)
            have h12 : u 12 = undef := hd 12 (by kernel_rfl)
            simp only [fillL, Act.put, List.setIfInBounds_toArray, List.set_cons_zero, List.set_cons_succ, h5, h11, h12]
            first | kernel_rfl | (show _ = _; kernel_rfl)
          · refine relSkip 14 rfl hEr (fun _ => rfl) fun u wq hS hd => ?_
            have h5 : u 5 = .bool false := hd 5 (by kernel_rfl)
            have h11 : u 11 = undef := hd 11 (by kernel_rfl)
            have h13 : u 13 = undef := hd 13 (by kernel_rfl)
            simp only [fillL, Act.put, List.setIfInBounds_toArray, List.set_cons_zero, List.set_cons_succ, h5, h11, h13]
            first | kernel_rfl | (show _ = _; kernel_rfl)
          · refine relQuiet 15 rfl rfl hEr (.bool false) (fun _ => rfl) fun u wq hS hd => ?_
            have h5 : u 5 = .bool false := hd 5 (by kernel_rfl)
            have h14 : u 14 = undef := hd 14 (by kernel_rfl)
            simp only [fillL, Act.put, List.setIfInBounds_toArray, List.set_cons_zero, List.set_cons_succ, h5, h14]
            first | kernel_rfl | (show _ = _; kernel_rfl)
          intro u wz hS hv
          have h0 : u 0 = .slice (some ⟨g, 0, Option.none⟩) n cap := hv 0 (by decide)
          have h1 : u 1 = .int .i64 (i : Int) := hv 1 (by decide)
          have h2 : u 2 = .pointer (some ⟨g, i * 4, Option.none⟩) := hv 2 (by decide)
          have h3 : u 3 = .agg #[.int .i64 ms, .string (B ml), .int .u64 mn, .int .u64 mv] := hv 3 (by decide)
          have h4 : u 4 = .bool false := hv 4 (by decide)
          have h5 : u 5 = .bool false := hv 5 (by decide)
          have h6 : u 6 = undef := hv 6 (by decide)
          have h7 : u 7 = undef := hv 7 (by decide)
          have h8 : u 8 = undef := hv 8 (by decide)
          have h9 : u 9 = undef := hv 9 (by decide)
          have h10 : u 10 = undef := hv 10 (by decide)
          have h11 : u 11 = undef := hv 11 (by decide)
          have h12 : u 12 = undef := hv 12 (by decide)
          have h13 : u 13 = undef := hv 13 (by decide)
          have h14 : u 14 = undef := hv 14 (by decide)
          have h15 : u 15 = .bool false := hv 15 (by decide)
          simp only [fillL, Act.put, List.setIfInBounds_toArray, List.set_cons_zero, List.set_cons_succ, h0, h1, h2, h3, h4, h5, h6, h7, h8, h9, h10, h11, h12, h13, h14, h15]
          clear hEr hv h0 h1 h2 h3 h4 h5 h6 h7 h8 h9 h10 h11 h12 h13 h14 h15
          clear u
          refine wpAny_of_held (S := fun _ => True) _ _ _ _ ?_
          refine wpAnyH_done (by kernel_rfl) ?_ _
          have HWZ := Lib.hid (HB.out.trans (hS.mono hbs))
          clear hS
          go_wp2
          go_round
          case rel => exact ⟨i + 1, by omega, by go_num, HNX, HWZ.out⟩
          case measure => simp [intOf]; omega
        | true =>
          have HNX := Lib.hid fun h : ¬ bytesB mt = bt => HNEXT.out (by simp [h])
          have HG2 := Lib.hid (HGM.out rfl HMB.out)
          have HRT := HRT0
          have HIT := Lib.hid (HIT0.out rfl)
          have HBY := Lib.hid (HBY0.out rfl)
          clear HIT0 HBY0 HGM HNEXT HRT0
          go_wp2_with fail
          have hEr : ∀ W : World, (fun W W' => Below W.heap.size W W') W W := fun W => Below.refl _ _
          refine wp_region_rel 16 0 0 (fun W => Below wr.heap.size wr W) [52, 53, 54, 55, 56, 57, 58, 59, 60, 61, 62, 63, 64, 65, 66, 67] (relAt [fun zv _ => zv = .slice (some ⟨g, 0, Option.none⟩) n cap, fun zv _ => zv = .int .i64 (i : Int), fun zv _ => zv = .pointer (some ⟨g, i * 4, Option.none⟩), fun zv _ => zv = .agg #[.int .i64 ms, .string (B ml), .int .u64 mn, .int .u64 mv], fun zv _ => zv = .bool true, fun zv _ => zv = .bool true, fun zv _ => zv = .slice (some ⟨g, 0, Option.none⟩) n cap, fun zv _ => zv = .int .i64 (i : Int), fun zv _ => zv = .pointer (some ⟨g, i * 4, Option.none⟩), fun zv _ => zv = .agg #[.int .i64 ms, .string (B ml), .int .u64 mn, .int .u64 mv], fun zv W => ∃ ds, zv = .agg (List.toArray ds) ∧ TAt W mt ds, fun zv _ => zv = .string (B (bytesB mt)), fun zv _ => zv = .agg X, fun zv _ => zv = .string (B bt), fun zv _ => zv = .bool (decide (bytesB mt = bt)), fun zv _ => zv = .bool (decide (bytesB mt = bt))]) (fun W W' => Below W.heap.size W W') (by kernel_rfl) rfl rfl (by kernel_rfl) (by kernel_rfl) (by kernel_rfl) (by kernel_rfl) (Mono.at ⟨fun _ _ _ _ h => h, fun _ _ _ _ h => h, fun _ _ _ _ h => h, fun _ _ _ _ h => h, fun _ _ _ _ h => h, fun _ _ _ _ h => h, fun _ _ _ _ h => h, fun _ _ _ _ h => h, fun _ _ _ _ h => h, fun _ _ _ _ h => h, fun _ _ _ hb ⟨ds, h1, h2⟩ => ⟨ds, h1, h2.keep hb (Nat.le_refl _)⟩, fun _ _ _ _ h => h, fun _ _ _ _ h => h, fun _ _ _ _ h => h, fun _ _ _ _ h => h, fun _ _ _ _ h => h, trivial⟩) ((Below.refl _ _).drew) ⟨?_, ?_, ?_, ?_, ?_, ?_, ?_, ?_, ?_, ?_, ?_, ?_, ?_, ?_, ?_, ?_, trivial⟩ ?_
          · refine relQuiet 0 rfl rfl hEr (.slice (some ⟨g, 0, Option.none⟩) n cap) (fun _ => rfl) fun u wq hS hd => ?_
            simp only [fillL, Act.put, List.setIfInBounds_toArray, List.set_cons_zero, List.set_cons_succ]
            first | kernel_rfl | (show _ = _; kernel_rfl)
          · refine relQuiet 1 rfl rfl hEr (.int .i64 (i : Int)) (fun _ => rfl) fun u wq hS hd => ?_
            simp only [fillL, Act.put, List.setIfInBounds_toArray, List.set_cons_zero, List.set_cons_succ]
            first | kernel_rfl | (show _ = _; kernel_rfl)
          · refine relQuiet 2 rfl rfl hEr (.pointer (some ⟨g, i * 4, Option.none⟩)) (fun _ => rfl) fun u wq hS hd => ?_
            have h0 : u 0 = .slice (some ⟨g, 0, Option.none⟩) n cap := hd 0 (by kernel_rfl)
            have h1 : u 1 = .int .i64 (i : Int) := hd 1 (by kernel_rfl)
            simp only [fillL, Act.put, List.setIfInBounds_toArray, List.set_cons_zero, List.set_cons_succ, h0, h1]
            exact runIdxE (.tmp 52) (.tmp 53) rfl g n cap i rfl rfl hin
          · refine relQuiet 3 rfl rfl hEr (.agg #[.int .i64 ms, .string (B ml), .int .u64 mn, .int .u64 mv]) (fun _ => rfl) fun u wq hS hd => ?_
            have h2 : u 2 = .pointer (some ⟨g, i * 4, Option.none⟩) := hd 2 (by kernel_rfl)
            simp only [fillL, Act.put, List.setIfInBounds_toArray, List.set_cons_zero, List.set_cons_succ, h2]
            exact runLdMid 30 (.tmp 54) rfl g (i * 4) rfl _ (rangeAt_below RG.out hS hg) _ Try.underlying30 rfl infoE
          · refine relCall 4 rfl rfl 20 fun u wq hS hd => ?_
            have h3 : u 3 = .agg #[.int .i64 ms, .string (B ml), .int .u64 mn, .int .u64 mv] := hd 3 (by kernel_rfl)
            simp only [fillL, Act.put, List.setIfInBounds_toArray, List.set_cons_zero, List.set_cons_succ, h3]
            refine ⟨#[.agg #[.int .i64 ms, .string (B ml), .int .u64 mn, .int .u64 mv]], by kernel_rfl, ?_⟩
            refine (HRT.out wq).mono ?_
            rintro e w' ⟨rfl, hb⟩
            exact ⟨_, rfl, hS.trans (hb.mono hS.size), hb, rfl⟩
          · refine relQuiet 5 rfl rfl hEr (.bool true) (fun _ => rfl) fun u wq hS hd => ?_
            have h4 : u 4 = .bool true := hd 4 (by kernel_rfl)
            simp only [fillL, Act.put, List.setIfInBounds_toArray, List.set_cons_zero, List.set_cons_succ, h4]
            first | kernel_rfl | (show _ = _; kernel_rfl)
          · refine relRunG 6 rfl fun u wq hS hd => ?_
            have h5 : u 5 = .bool true := hd 5 (by kernel_rfl)
            simp only [fillL, Act.put, List.setIfInBounds_toArray, List.set_cons_zero, List.set_cons_succ, h5]
            refine ⟨by first | kernel_rfl | (show _ = _; kernel_rfl), (.slice (some ⟨g, 0, Option.none⟩) n cap), wq, ?_, hS, hEr wq, rfl⟩
            first | kernel_rfl | (show _ = _; kernel_rfl)
          · refine relRunG 7 rfl fun u wq hS hd => ?_
            have h5 : u 5 = .bool true := hd 5 (by kernel_rfl)
            simp only [fillL, Act.put, List.setIfInBounds_toArray, List.set_cons_zero, List.set_cons_succ, h5]
            refine ⟨by first | kernel_rfl | (show _ = _; kernel_rfl), (.int .i64 (i : Int)), wq, ?_, hS, hEr wq, rfl⟩
            first | kernel_rfl | (show _ = _; kernel_rfl)
          · refine relRunG 8 rfl fun u wq hS hd => ?_
            have h5 : u 5 = .bool true := hd 5 (by kernel_rfl)
            have h6 : u 6 = .slice (some ⟨g, 0, Option.none⟩) n cap := hd 6 (by kernel_rfl)
            have h7 : u 7 = .int .i64 (i : Int) := hd 7 (by kernel_rfl)
            simp only [fillL, Act.put, List.setIfInBounds_toArray, List.set_cons_zero, List.set_cons_succ, h5, h6, h7]
            refine ⟨by first | kernel_rfl | (show _ = _; kernel_rfl), (.pointer (some ⟨g, i * 4, Option.none⟩)), wq, ?_, hS, hEr wq, rfl⟩
            exact runIdxE (.tmp 58) (.tmp 59) rfl g n cap i rfl rfl hin
          · refine relRunG 9 rfl fun u wq hS hd => ?_
            have h5 : u 5 = .bool true := hd 5 (by kernel_rfl)
            have h8 : u 8 = .pointer (some ⟨g, i * 4, Option.none⟩) := hd 8 (by kernel_rfl)
            simp only [fillL, Act.put, List.setIfInBounds_toArray, List.set_cons_zero, List.set_cons_succ, h5, h8]
            refine ⟨by first | kernel_rfl | (show _ = _; kernel_rfl), (.agg #[.int .i64 ms, .string (B ml), .int .u64 mn, .int .u64 mv]), wq, ?_, hS, hEr wq, rfl⟩
            exact runLdMid 30 (.tmp 60) rfl g (i * 4) rfl _ (rangeAt_below RG.out hS hg) _ Try.underlying30 rfl infoE
          · refine relCallG 10 rfl 63 fun u wq hS hd => ?_
            have h5 : u 5 = .bool true := hd 5 (by kernel_rfl)
            have h9 : u 9 = .agg #[.int .i64 ms, .string (B ml), .int .u64 mn, .int .u64 mv] := hd 9 (by kernel_rfl)
            simp only [fillL, Act.put, List.setIfInBounds_toArray, List.set_cons_zero, List.set_cons_succ, h5, h9]
            refine ⟨by first | kernel_rfl | (show _ = _; kernel_rfl), #[.agg #[.int .i64 ms, .string (B ml), .int .u64 mn, .int .u64 mv]], by kernel_rfl, ?_⟩
            refine (HIT.out wq).mono ?_
            rintro e w' ⟨ds, rfl, ht, hb⟩
            exact ⟨_, rfl, hS.trans (hb.mono hS.size), hb, ds, rfl, ht⟩
          · refine relCallG 11 rfl 62 fun u wq hS hd => ?_
            have h5 : u 5 = .bool true := hd 5 (by kernel_rfl)
            have h10 : (fun zv W => ∃ ds, zv = .agg (List.toArray ds) ∧ TAt W mt ds) (u 10) wq := hd 10 (by kernel_rfl)
            obtain ⟨ds, e10, t10⟩ := h10
            simp only [fillL, Act.put, List.setIfInBounds_toArray, List.set_cons_zero, List.set_cons_succ, h5, e10]
            refine ⟨by first | kernel_rfl | (show _ = _; kernel_rfl), #[.agg ds.toArray], by kernel_rfl, ?_⟩
            refine (HBY.out wq ds t10).mono ?_
            rintro e w' ⟨rfl, hb⟩
            exact ⟨_, rfl, hS.trans (hb.mono hS.size), hb, rfl⟩
          · refine relRunG 12 rfl fun u wq hS hd => ?_
            have h5 : u 5 = .bool true := hd 5 (by kernel_rfl)
            simp only [fillL, Act.put, List.setIfInBounds_toArray, List.set_cons_zero, List.set_cons_succ, h5]
            refine ⟨by first | kernel_rfl | (show _ = _; kernel_rfl), (.agg X), wq, ?_, hS, hEr wq, rfl⟩
            exact runLdMid 52 (.tmp 1) rfl w.heap.size 0 rfl X (rangeAt_row (heap_below hS hXs QX.out)) _ Try.underlying52 rfl (by rw [H5.out]; exact infoI)
          · refine relCallG 13 rfl 62 fun u wq hS hd => ?_
            have h5 : u 5 = .bool true := hd 5 (by kernel_rfl)
            have h11 : u 11 = .string (B (bytesB mt)) := hd 11 (by kernel_rfl)
            have h12 : u 12 = .agg X := hd 12 (by kernel_rfl)
            simp only [fillL, Act.put, List.setIfInBounds_toArray, List.set_cons_zero, List.set_cons_succ, h5, h11, h12]
            refine ⟨by first | kernel_rfl | (show _ = _; kernel_rfl), #[.agg X], by kernel_rfl, ?_⟩
            refine (HBT.out wq (HWR.out.trans (hS.mono HWR.out.size))).mono ?_
            rintro e w' ⟨rfl, hb⟩
            exact ⟨_, rfl, hS.trans (hb.mono hS.size), hb, rfl⟩
          · refine relRunG 14 rfl fun u wq hS hd => ?_
            have h5 : u 5 = .bool true := hd 5 (by kernel_rfl)
            have h11 : u 11 = .string (B (bytesB mt)) := hd 11 (by kernel_rfl)
            have h13 : u 13 = .string (B bt) := hd 13 (by kernel_rfl)
            simp only [fillL, Act.put, List.setIfInBounds_toArray, List.set_cons_zero, List.set_cons_succ, h5, h11, h13]
            refine ⟨by first | kernel_rfl | (show _ = _; kernel_rfl), (.bool (decide (bytesB mt = bt))), wq, ?_, hS, hEr wq, rfl⟩
            exact runEqS (.tmp 63) (.tmp 65) _ rfl _ _ rfl rfl
          · refine relQuiet 15 rfl rfl hEr (.bool (decide (bytesB mt = bt))) (fun _ => rfl) fun u wq hS hd => ?_
            have h5 : u 5 = .bool true := hd 5 (by kernel_rfl)
            have h14 : u 14 = .bool (decide (bytesB mt = bt)) := hd 14 (by kernel_rfl)
            simp only [fillL, Act.put, List.setIfInBounds_toArray, List.set_cons_zero, List.set_cons_succ, h5, h14]
            first | kernel_rfl | (show _ = _; kernel_rfl)
          intro u wz hS hv
          have h0 : u 0 = .slice (some ⟨g, 0, Option.none⟩) n cap := hv 0 (by decide)
          have h1 : u 1 = .int .i64 (i : Int) := hv 1 (by decide)
          have h2 : u 2 = .pointer (some ⟨g, i * 4, Option.none⟩) := hv 2 (by decide)
          have h3 : u 3 = .agg #[.int .i64 ms, .string (B ml), .int .u64 mn, .int .u64 mv] := hv 3 (by decide)
          have h4 : u 4 = .bool true := hv 4 (by decide)
          have h5 : u 5 = .bool true := hv 5 (by decide)
          have h6 : u 6 = .slice (some ⟨g, 0, Option.none⟩) n cap := hv 6 (by decide)
          have h7 : u 7 = .int .i64 (i : Int) := hv 7 (by decide)
          have h8 : u 8 = .pointer (some ⟨g, i * 4, Option.none⟩) := hv 8 (by decide)
          have h9 : u 9 = .agg #[.int .i64 ms, .string (B ml), .int .u64 mn, .int .u64 mv] := hv 9 (by decide)
          have h10 : (fun zv W => ∃ ds, zv = .agg (List.toArray ds) ∧ TAt W mt ds) (u 10) wz := hv 10 (by decide)
          obtain ⟨ds, e10, t10⟩ := h10
          have h11 : u 11 = .string (B (bytesB mt)) := hv 11 (by decide)
          have h12 : u 12 = .agg X := hv 12 (by decide)
          have h13 : u 13 = .string (B bt) := hv 13 (by decide)
          have h14 : u 14 = .bool (decide (bytesB mt = bt)) := hv 14 (by decide)
          have h15 : u 15 = .bool (decide (bytesB mt = bt)) := hv 15 (by decide)
          simp only [fillL, Act.put, List.setIfInBounds_toArray, List.set_cons_zero, List.set_cons_succ, h0, h1, h2, h3, h4, h5, h6, h7, h8, h9, e10, h11, h12, h13, h14, h15]
          clear hEr hv h0 h1 h2 h3 h4 h5 h6 h7 h8 h9 e10 h11 h12 h13 h14 h15
          clear u
          refine wpAny_of_held (S := fun _ => True) _ _ _ _ ?_
          refine wpAnyH_done (by kernel_rfl) ?_ _
          have HWZ := Lib.hid (HB.out.trans (hS.mono hbs))
          have HW1Z := Lib.hid (HW1R.out.trans (hS.mono HW1R.out.size))
          have RGZ := Lib.hid (rangeAt_below RG.out hS hg)
          clear hS t10
          by_cases he : bytesB mt = bt
          · have hd : decide (bytesB mt = bt) = true := decide_eq_true he
            have HF := Lib.hid (HG2.out he)
            generalize decide (bytesB mt = bt) = dd at *
            subst hd
            clear he
            go_wp2_with (with_reducible refine stop_load 30 rfl ?_)
            refine load_mid 30 (.tmp 70) rfl rfl (some 71) rfl g (i * 4) rfl #[.int .i64 ms, .string (B ml), .int .u64 mn, .int .u64 mv] (by first | exact RGZ.out | (rw [Nat.zero_add]; exact RGZ.out)) _ Try.underlying30 rfl infoE ?_
            go_wp2_with (with_reducible refine stop_store 30 rfl ?_)
            refine store_row 30 (.tmp 2) (.tmp 71) rfl rfl rfl (w.heap.size + 1) #[.int .i64 ms, .string (B ml), .int .u64 mn, .int .u64 mv] rfl rfl 30 _ (heap_below HW1Z.out (by omega) Q1.out) infoE rfl (by simp [Value.oneCell']) ?_
            go_wp2
            exact post_row_tmp (w.heap.size + 1) Try.results31 30 _ _ (.int .i64 0) rfl rfl (setRow_heap _ _ _ _ _ _ (heap_below HW1Z.out (by omega) Q1.out)) Try.underlying30 rfl infoE rfl ⟨HF.out, setRow_below _ (by omega) (GB.out.trans ((HW1Z.out).mono (by omega)))⟩
          · have hd : decide (bytesB mt = bt) = false := decide_eq_false he
            have HN2 := Lib.hid (HNX.out he)
            generalize decide (bytesB mt = bt) = dd at *
            subst hd
            clear he
            go_wp2
            go_round
            case rel => exact ⟨i + 1, by omega, by go_num, HN2, HWZ.out⟩
            case measure => simp [intOf]; omega
theorem rOf_any (t : Tr) (cs : List Value) (w : World) (h : TAt w t cs) (hsz : szT t ≤ 200) : Calls Try.prog 31 #[.agg cs.toArray] w fun e w' => RofR t e ∧ Below w.heap.size w w' := by
  by_cases hr : rightT 8 t = true ∧ t.l.length = 2
  · obtain ⟨h1, h2⟩ := hr
    match hl : t.l, h2 with
    | [x, y], _ => exact rOf_yes t x y cs w h hsz h1 hl
  · refine rOf_no t cs w h ?_
    by_cases h1 : rightT 8 t = true
    · exact .inr fun h2 => hr ⟨h1, h2⟩
    · exact .inl (by simpa using h1)
end Go.Proofs.Ythoickghfjgmmaa.Itm
