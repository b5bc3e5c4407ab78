/-
  The walk of the reference's Parse.
  Conditions: at most 90 bytes; the library's variables hold what the program's text lays.
-/
import Derived.Test.YtlbpodddokhmaaaDoorPrs4
namespace Go.Proofs.YtlbpodddokhmaaaDoor.Fmt
open Go.ChangeShapes Go.WideShapes Go.ChangeAt Go.RowKit Go.Deep Go.Lib Go.Proofs.YtlbpodddokhmaaaDoor.Itm Go.Proofs.YtlbpodddokhmaaaDoor.Eid
theorem text_len {m : Nm} (h : m.right = true) : 4 ≤ (textB m.s m.l m.n m.v).length := by
  unfold textB
  split <;> simp <;> omega
theorem runSl1 {o : Oper} {a : Act} {w : World} (x y : Operand) (ho : o.op = .slice 9 x (some (.const (.int .i64 4))) (some y) none) (s x1 : List UInt8) (d : Nat) (h4 : 4 ≤ d) (hd : d ≤ s.length) (hx : a.eval x = .string (B s)) (hy : a.eval y = .int .i64 (d : Int)) (hx1 : (s.take d).drop 4 = x1) :
    (execOp a.eval o).run Tryd.prog w = .ok (.value (.string (B x1))) w := by
  have h : (s.drop 4).take (d - 4) = x1 := by rw [← hx1, List.drop_take]
  have he : a.eval (.const (.int .i64 4)) = .int .i64 4 := rfl
  have h4' : (4 : Int) ≤ (d : Int) := by omega
  have hd' : (d : Int) ≤ (s.length : Int) := by omega
  subst h
  clear hx1
  unfold execOp
  simp only [ho, hx, hy, he, Option.map_some, Option.map_none]
  go_simp
theorem runSl2 {o : Oper} {a : Act} {w : World} (x y : Operand) (ho : o.op = .slice 9 x (some y) none none) (s x2 : List UInt8) (d : Nat) (hd : d ≤ s.length) (hx : a.eval x = .string (B s)) (hy : a.eval y = .int .i64 (d : Int)) (hx2 : s.drop d = x2) :
    (execOp a.eval o).run Tryd.prog w = .ok (.value (.string (B x2))) w := by
  have hd' : (d : Int) ≤ (s.length : Int) := by omega
  subst hx2
  unfold execOp
  simp only [ho, hx, hy, Option.map_some, Option.map_none]
  go_simp
theorem runInc {o : Oper} {a : Act} {w : World} (x : Operand) (tp : TypeId) (ho : o.op = .binOp .add 3 x (.const (.int .i64 1)) tp) (d : Nat) (hd : d ≤ 1000) (hx : a.eval x = .int .i64 (d : Int)) :
    (execOp a.eval o).run Tryd.prog w = .ok (.value (.int .i64 ((d + 1 : Nat) : Int))) w := by
  have he : a.eval (.const (.int .i64 1)) = .int .i64 1 := rfl
  have hw : IntKind.i64.wrap ((d : Int) + 1) = (d : Int) + 1 := by
    simp [IntKind.wrap, IntKind.bits, IntKind.signed]
    omega
  unfold execOp
  simp only [ho, hx, he]
  go_simp
set_option maxHeartbeats 1600000 in
set_option maxRecDepth 100000 in
theorem rParse_short (s : List UInt8) (w : World) (h : s.length < 4) : Calls Tryd.prog 7 #[.string (B s)] w fun e w' => ParseR s e ∧ Below w.heap.size w w' := by
  have HP : Hid (ParseR s (.returned (.tuple #[nmV Nm.zero, .int .i64 (2 : Nat)]))) := Lib.hid ⟨Nm.zero, 2, rfl, .inr ⟨rfl, rfl, fun m hm he => by have := text_len hm; rw [he] at this; omega⟩⟩
  have h4 : (s.length : Int) < 4 := by omega
  clear h
  go_enter Tryd.func7, Tryd.ntmps7
  go_wp2
  exact bodyPost_ret (v := .tuple #[.agg #[.int .i64 0, .string ⟨#[]⟩, .int .u64 0, .int .u64 0], .int .i64 2]) (by simp [results, Tryd.results7, go_sem]) rfl ⟨HP.out, by ((repeat' (with_reducible first | exact Below.refl _ _ | assumption | refine Below.drew ?_ | refine below_drewN ?_ _ | refine Below.setCell ?_ ?_ _ | refine Below.alloc ?_ ?_ _ | refine Below.ext ?_ ?_ _ | refine Below.trans ?_ (Below.mono ‹_› ?_))) <;> first | omega | (simp; done) | (simp; omega))⟩
set_option maxHeartbeats 3200000 in
set_option maxRecDepth 100000 in
theorem rParse_dtn (s : List UInt8) (w : World) (h4 : 4 ≤ s.length) (h90 : s.length ≤ 90) (hi : ¬ (s.take 4 = ipnP)) : Calls Tryd.prog 7 #[.string (B s)] w fun e w' => ParseR s e ∧ Below w.heap.size w w' := by
  obtain ⟨l, hl⟩ : ∃ l, s.drop 4 = l := ⟨_, rfl⟩
  have hll : l.length ≤ 90 := by rw [← hl, List.length_drop]; omega
  have hip : ((s.take 4) == [105, 112, 110, 58]) = false := by simpa [ipnP] using hi
  have HG : Hid (rightB 1 l 0 0 = true → textB 1 l 0 0 = s → ParseR s (.returned (.tuple #[nmV ⟨1, l, 0, 0⟩, .int .i64 (0 : Nat)]))) := Lib.hid fun hr ht => ⟨⟨1, l, 0, 0⟩, 0, rfl, .inl ⟨rfl, hr, ht⟩⟩
  have HB : Hid (¬ (rightB 1 l 0 0 = true ∧ textB 1 l 0 0 = s) → ParseR s (.returned (.tuple #[nmV Nm.zero, .int .i64 (2 : Nat)]))) := Lib.hid fun hno => ⟨Nm.zero, 2, rfl, .inr ⟨rfl, rfl, fun m hm he => by
    have := cand_dtn hm he hi
    rw [hl] at this
    subst this
    exact hno ⟨hm, he⟩⟩⟩
  have HRT := Lib.hid fun W => rRight_any 1 l 0 0 W
  have HTX := Lib.hid fun W => rText_any 1 l 0 0 W (by omega) (show 0 < W64 by decide) (show 0 < W64 by decide)
  have h4' : ¬ (s.length : Int) < 4 := by omega
  have h90' : (s.length : Int) ≤ 100 := by omega
  have h4n : 4 ≤ s.length := h4
  have HL := Lib.hid hl
  clear hi hl
  go_enter Tryd.func7, Tryd.ntmps7
  go_wp2_with (with_reducible refine stop_store 25 rfl ?_)
  rw [HL.out]
  refine store_row 25 (.tmp 4) (.tmp 17) rfl rfl rfl (w.heap.size + 1) #[.int .i64 1, .string (B l), .int .u64 0, .int .u64 0] rfl rfl 25 #[.int .i64 0, .string ⟨#[]⟩, .int .u64 0, .int .u64 0] (heap_at (by show (w.heap.push _).size = _; simp)) infoE rfl (by simp [Value.oneCell']) ?_
  obtain ⟨w1, hw1⟩ : ∃ w1, ((w.alloc (.cells #[.int .i64 0, .string ⟨#[]⟩, .int .u64 0, .int .u64 0] 25)).alloc (.cells #[.int .i64 0, .string ⟨#[]⟩, .int .u64 0, .int .u64 0] 25)).setRow (w.heap.size + 1) #[.int .i64 1, .string (B l), .int .u64 0, .int .u64 0] = w1 := ⟨_, rfl⟩
  have gS : w1.heap.size = w.heap.size + 1 + 1 := by rw [← hw1, setRow_size]; show ((w.heap.push _).push _).size = _; simp
  have gb : Below w.heap.size w w1 := by rw [← hw1]; exact setRow_below _ (by omega) (((Below.refl _ _).alloc (Nat.le_refl _) _).alloc (by show w.heap.size ≤ (w.heap.push _).size; simp) _)
  have q1 : w1.heap[w.heap.size]? = some (.cells #[.int .i64 0, .string ⟨#[]⟩, .int .u64 0, .int .u64 0] 25 (0, 0)) := by rw [← hw1, setRow_other _ _ _ _ (by omega)]; exact heap_under (heap_alloc_last w _)
  have q2 : w1.heap[w.heap.size + 1]? = some (.cells #[.int .i64 1, .string (B l), .int .u64 0, .int .u64 0] 25 (0, 0)) := by rw [← hw1]; exact setRow_heap _ _ _ _ _ _ (heap_at (by show (w.heap.push _).size = _; simp))
  rw [hw1]
  clear hw1
  have QR1 := Lib.hid q1
  have QE1 := Lib.hid q2
  have GB1 := Lib.hid gb
  have hzr : w.heap.size < w1.heap.size := by omega
  have hze : w.heap.size + 1 < w1.heap.size := by omega
  clear q1 q2 gb
  go_wp2_with fail
  go_loopw [5] (fun s5 wr => ∃ i : Nat, 4 ≤ i ∧ i ≤ s.length ∧ s5 = .int .i64 (i : Int) ∧ wr = w1) (fun s5 _ => s.length - (RowKit.intOf s5).toNat)
  case atStart => exact ⟨4, by omega, by omega, rfl, rfl⟩
  case round =>
    obtain ⟨i, hi4, hil, rfl, hwr⟩ := hrel
    have hwr2 := hwr.symm
    subst hwr2
    clear hwr
    by_cases hend : i = s.length
    · have hlt : ¬ (i : Int) < (s.length : Int) := by omega
      clear hend
      go_wp2_with (with_reducible refine stop_load 25 rfl ?_)
      refine load_mid 25 (.tmp 4) rfl rfl (some 43) rfl (w.heap.size + 1) 0 rfl #[.int .i64 1, .string (B l), .int .u64 0, .int .u64 0] (rangeAt_row QE1.out) _ Tryd.underlying25 rfl infoE ?_
      go_wp2_with fail
      refine (HRT.out _).mono ?_
      rintro e wz ⟨rfl, hbz⟩
      have QR9 := Lib.hid (heap_below hbz hzr QR1.out)
      have QE9 := Lib.hid (heap_below hbz hze QE1.out)
      have B9 := Lib.hid (GB1.out.trans (hbz.mono GB1.out.size))
      have hzr9 : w.heap.size < wz.heap.size := by have := hbz.size; omega
      have hze9 : w.heap.size + 1 < wz.heap.size := by have := hbz.size; omega
      clear hbz
      generalize hrk : rightB 1 l 0 0 = rk at *
      cases rk with
      | false =>
        have HP := Lib.hid (HB.out (by simp))
        clear hrk
        go_wp2_with (with_reducible refine stop_store 25 rfl ?_)
        refine store_row 25 (.tmp 2) (.tmp 52) rfl rfl rfl w.heap.size #[.int .i64 0, .string ⟨#[]⟩, .int .u64 0, .int .u64 0] rfl rfl 25 _ QR9.out infoE rfl (by simp [Value.oneCell']) ?_
        go_wp2
        exact post_row_tmp w.heap.size Tryd.results7 25 _ _ (.int .i64 2) rfl rfl (setRow_heap _ _ _ _ _ _ QR9.out) Tryd.underlying25 rfl infoE rfl ⟨HP.out, setRow_below _ (Nat.le_refl _) B9.out⟩
      | true =>
        clear hrk
        go_wp2_with (with_reducible refine stop_load 25 rfl ?_)
        refine load_mid_g 25 (.tmp 4) rfl rfl (some 47) rfl (w.heap.size + 1) 0 rfl #[.int .i64 1, .string (B l), .int .u64 0, .int .u64 0] (rangeAt_row QE9.out) _ Tryd.underlying25 rfl infoE ?_
        go_wp2_with fail
        refine (HTX.out _).mono ?_
        rintro e wy ⟨rfl, hby⟩
        have QR8 := Lib.hid (heap_below hby hzr9 QR9.out)
        have QE8 := Lib.hid (heap_below hby hze9 QE9.out)
        have B8 := Lib.hid (B9.out.trans (hby.mono B9.out.size))
        clear hby
        by_cases hts : textB 1 l 0 0 = s
        · have HP := Lib.hid (HG.out (by first | rfl | trivial) hts)
          have hd : (textB 1 l 0 0 == s) = true := by rw [hts]; exact beq_self_eq_true _
          have hd2 : (textB 1 l 0 0 != s) = false := by rw [hts]; simp
          clear HG HB hts
          generalize textB 1 l 0 0 = TX at *
          go_wp2_with (with_reducible refine stop_load 25 rfl ?_)
          refine load_mid 25 (.tmp 4) rfl rfl (some 53) rfl (w.heap.size + 1) 0 rfl #[.int .i64 1, .string (B l), .int .u64 0, .int .u64 0] (rangeAt_row QE8.out) _ Tryd.underlying25 rfl infoE ?_
          go_wp2_with (with_reducible refine stop_store 25 rfl ?_)
          refine store_row 25 (.tmp 2) (.tmp 53) rfl rfl rfl w.heap.size #[.int .i64 1, .string (B l), .int .u64 0, .int .u64 0] rfl rfl 25 _ QR8.out infoE rfl (by simp [Value.oneCell']) ?_
          go_wp2
          exact post_row_tmp w.heap.size Tryd.results7 25 _ _ (.int .i64 0) rfl rfl (setRow_heap _ _ _ _ _ _ QR8.out) Tryd.underlying25 rfl infoE rfl ⟨HP.out, setRow_below _ (Nat.le_refl _) B8.out⟩
        · have HP := Lib.hid (HB.out fun h => hts h.2)
          have hd : (textB 1 l 0 0 == s) = false := by simpa using hts
          have hd2 : (textB 1 l 0 0 != s) = true := by simpa using hts
          clear HG HB hts
          generalize textB 1 l 0 0 = TX at *
          go_wp2_with (with_reducible refine stop_store 25 rfl ?_)
          refine store_row 25 (.tmp 2) (.tmp 52) rfl rfl rfl w.heap.size #[.int .i64 0, .string ⟨#[]⟩, .int .u64 0, .int .u64 0] rfl rfl 25 _ QR8.out infoE rfl (by simp [Value.oneCell']) ?_
          go_wp2
          exact post_row_tmp w.heap.size Tryd.results7 25 _ _ (.int .i64 2) rfl rfl (setRow_heap _ _ _ _ _ _ QR8.out) Tryd.underlying25 rfl infoE rfl ⟨HP.out, setRow_below _ (Nat.le_refl _) B8.out⟩
    · have hlt : (i : Int) < (s.length : Int) := by omega
      have hin : i < s.length := by omega
      go_wp2
      go_round
      case rel => exact ⟨i + 1, by omega, by omega, by go_num, by first | rfl | trivial⟩
      case measure => simp [RowKit.intOf]; omega
set_option maxHeartbeats 3200000 in
set_option maxRecDepth 100000 in
theorem rParse_none (s : List UInt8) (w : World) (h4 : 4 ≤ s.length) (h90 : s.length ≤ 90) (hi : s.take 4 = ipnP) (hno46 : ∀ j, 4 ≤ j → s[j]? ≠ some 46) : Calls Tryd.prog 7 #[.string (B s)] w fun e w' => ParseR s e ∧ Below w.heap.size w w' := by
  obtain ⟨l, hl⟩ : ∃ l, s.drop 4 = l := ⟨_, rfl⟩
  have hll : l.length ≤ 90 := by rw [← hl, List.length_drop]; omega
  have hip : ((s.take 4) == [105, 112, 110, 58]) = true := by simpa [ipnP] using hi
  have HG : Hid (rightB 1 l 0 0 = true → textB 1 l 0 0 = s → ParseR s (.returned (.tuple #[nmV ⟨1, l, 0, 0⟩, .int .i64 (0 : Nat)]))) := Lib.hid fun hr ht => ⟨⟨1, l, 0, 0⟩, 0, rfl, .inl ⟨rfl, hr, ht⟩⟩
  have HB : Hid (¬ (rightB 1 l 0 0 = true ∧ textB 1 l 0 0 = s) → ParseR s (.returned (.tuple #[nmV Nm.zero, .int .i64 (2 : Nat)]))) := Lib.hid fun hno => ⟨Nm.zero, 2, rfl, .inr ⟨rfl, rfl, fun m hm he => by
    exact cand_none hm he hi hno46⟩⟩
  have HRT := Lib.hid fun W => rRight_any 1 l 0 0 W
  have HTX := Lib.hid fun W => rText_any 1 l 0 0 W (by omega) (show 0 < W64 by decide) (show 0 < W64 by decide)
  have HNO := Lib.hid hno46
  clear hno46
  have h4' : ¬ (s.length : Int) < 4 := by omega
  have h90' : (s.length : Int) ≤ 100 := by omega
  have h4n : 4 ≤ s.length := h4
  have HL := Lib.hid hl
  clear hi hl
  go_enter Tryd.func7, Tryd.ntmps7
  go_wp2_with (with_reducible refine stop_store 25 rfl ?_)
  rw [HL.out]
  refine store_row 25 (.tmp 4) (.tmp 17) rfl rfl rfl (w.heap.size + 1) #[.int .i64 1, .string (B l), .int .u64 0, .int .u64 0] rfl rfl 25 #[.int .i64 0, .string ⟨#[]⟩, .int .u64 0, .int .u64 0] (heap_at (by show (w.heap.push _).size = _; simp)) infoE rfl (by simp [Value.oneCell']) ?_
  obtain ⟨w1, hw1⟩ : ∃ w1, ((w.alloc (.cells #[.int .i64 0, .string ⟨#[]⟩, .int .u64 0, .int .u64 0] 25)).alloc (.cells #[.int .i64 0, .string ⟨#[]⟩, .int .u64 0, .int .u64 0] 25)).setRow (w.heap.size + 1) #[.int .i64 1, .string (B l), .int .u64 0, .int .u64 0] = w1 := ⟨_, rfl⟩
  have gS : w1.heap.size = w.heap.size + 1 + 1 := by rw [← hw1, setRow_size]; show ((w.heap.push _).push _).size = _; simp
  have gb : Below w.heap.size w w1 := by rw [← hw1]; exact setRow_below _ (by omega) (((Below.refl _ _).alloc (Nat.le_refl _) _).alloc (by show w.heap.size ≤ (w.heap.push _).size; simp) _)
  have q1 : w1.heap[w.heap.size]? = some (.cells #[.int .i64 0, .string ⟨#[]⟩, .int .u64 0, .int .u64 0] 25 (0, 0)) := by rw [← hw1, setRow_other _ _ _ _ (by omega)]; exact heap_under (heap_alloc_last w _)
  have q2 : w1.heap[w.heap.size + 1]? = some (.cells #[.int .i64 1, .string (B l), .int .u64 0, .int .u64 0] 25 (0, 0)) := by rw [← hw1]; exact setRow_heap _ _ _ _ _ _ (heap_at (by show (w.heap.push _).size = _; simp))
  rw [hw1]
  clear hw1
  have QR1 := Lib.hid q1
  have QE1 := Lib.hid q2
  have GB1 := Lib.hid gb
  have hzr : w.heap.size < w1.heap.size := by omega
  have hze : w.heap.size + 1 < w1.heap.size := by omega
  clear q1 q2 gb
  go_wp2_with fail
  go_loopw [5] (fun s5 wr => ∃ i : Nat, 4 ≤ i ∧ i ≤ s.length ∧ s5 = .int .i64 (i : Int) ∧ wr = w1) (fun s5 _ => s.length - (RowKit.intOf s5).toNat)
  case atStart => exact ⟨4, by omega, by omega, rfl, rfl⟩
  case round =>
    obtain ⟨i, hi4, hil, rfl, hwr⟩ := hrel
    have hwr2 := hwr.symm
    subst hwr2
    clear hwr
    by_cases hend : i = s.length
    · have hlt : ¬ (i : Int) < (s.length : Int) := by omega
      clear hend
      go_wp2_with (with_reducible refine stop_load 25 rfl ?_)
      refine load_mid 25 (.tmp 4) rfl rfl (some 43) rfl (w.heap.size + 1) 0 rfl #[.int .i64 1, .string (B l), .int .u64 0, .int .u64 0] (rangeAt_row QE1.out) _ Tryd.underlying25 rfl infoE ?_
      go_wp2_with fail
      refine (HRT.out _).mono ?_
      rintro e wz ⟨rfl, hbz⟩
      have QR9 := Lib.hid (heap_below hbz hzr QR1.out)
      have QE9 := Lib.hid (heap_below hbz hze QE1.out)
      have B9 := Lib.hid (GB1.out.trans (hbz.mono GB1.out.size))
      have hzr9 : w.heap.size < wz.heap.size := by have := hbz.size; omega
      have hze9 : w.heap.size + 1 < wz.heap.size := by have := hbz.size; omega
      clear hbz
      generalize hrk : rightB 1 l 0 0 = rk at *
      cases rk with
      | false =>
        have HP := Lib.hid (HB.out (by simp))
        clear hrk
        go_wp2_with (with_reducible refine stop_store 25 rfl ?_)
        refine store_row 25 (.tmp 2) (.tmp 52) rfl rfl rfl w.heap.size #[.int .i64 0, .string ⟨#[]⟩, .int .u64 0, .int .u64 0] rfl rfl 25 _ QR9.out infoE rfl (by simp [Value.oneCell']) ?_
        go_wp2
        exact post_row_tmp w.heap.size Tryd.results7 25 _ _ (.int .i64 2) rfl rfl (setRow_heap _ _ _ _ _ _ QR9.out) Tryd.underlying25 rfl infoE rfl ⟨HP.out, setRow_below _ (Nat.le_refl _) B9.out⟩
      | true =>
        clear hrk
        go_wp2_with (with_reducible refine stop_load 25 rfl ?_)
        refine load_mid_g 25 (.tmp 4) rfl rfl (some 47) rfl (w.heap.size + 1) 0 rfl #[.int .i64 1, .string (B l), .int .u64 0, .int .u64 0] (rangeAt_row QE9.out) _ Tryd.underlying25 rfl infoE ?_
        go_wp2_with fail
        refine (HTX.out _).mono ?_
        rintro e wy ⟨rfl, hby⟩
        have QR8 := Lib.hid (heap_below hby hzr9 QR9.out)
        have QE8 := Lib.hid (heap_below hby hze9 QE9.out)
        have B8 := Lib.hid (B9.out.trans (hby.mono B9.out.size))
        clear hby
        by_cases hts : textB 1 l 0 0 = s
        · have HP := Lib.hid (HG.out (by first | rfl | trivial) hts)
          have hd : (textB 1 l 0 0 == s) = true := by rw [hts]; exact beq_self_eq_true _
          have hd2 : (textB 1 l 0 0 != s) = false := by rw [hts]; simp
          clear HG HB hts
          generalize textB 1 l 0 0 = TX at *
          go_wp2_with (with_reducible refine stop_load 25 rfl ?_)
          refine load_mid 25 (.tmp 4) rfl rfl (some 53) rfl (w.heap.size + 1) 0 rfl #[.int .i64 1, .string (B l), .int .u64 0, .int .u64 0] (rangeAt_row QE8.out) _ Tryd.underlying25 rfl infoE ?_
          go_wp2_with (with_reducible refine stop_store 25 rfl ?_)
          refine store_row 25 (.tmp 2) (.tmp 53) rfl rfl rfl w.heap.size #[.int .i64 1, .string (B l), .int .u64 0, .int .u64 0] rfl rfl 25 _ QR8.out infoE rfl (by simp [Value.oneCell']) ?_
          go_wp2
          exact post_row_tmp w.heap.size Tryd.results7 25 _ _ (.int .i64 0) rfl rfl (setRow_heap _ _ _ _ _ _ QR8.out) Tryd.underlying25 rfl infoE rfl ⟨HP.out, setRow_below _ (Nat.le_refl _) B8.out⟩
        · have HP := Lib.hid (HB.out fun h => hts h.2)
          have hd : (textB 1 l 0 0 == s) = false := by simpa using hts
          have hd2 : (textB 1 l 0 0 != s) = true := by simpa using hts
          clear HG HB hts
          generalize textB 1 l 0 0 = TX at *
          go_wp2_with (with_reducible refine stop_store 25 rfl ?_)
          refine store_row 25 (.tmp 2) (.tmp 52) rfl rfl rfl w.heap.size #[.int .i64 0, .string ⟨#[]⟩, .int .u64 0, .int .u64 0] rfl rfl 25 _ QR8.out infoE rfl (by simp [Value.oneCell']) ?_
          go_wp2
          exact post_row_tmp w.heap.size Tryd.results7 25 _ _ (.int .i64 2) rfl rfl (setRow_heap _ _ _ _ _ _ QR8.out) Tryd.underlying25 rfl infoE rfl ⟨HP.out, setRow_below _ (Nat.le_refl _) B8.out⟩
    · have hlt : (i : Int) < (s.length : Int) := by omega
      have hin : i < s.length := by omega
      obtain ⟨c, hc⟩ : ∃ c, s[i]? = some c := ⟨s[i], List.getElem?_eq_getElem hin⟩
      have hcg : s[i] = c := by rw [List.getElem?_eq_getElem hin] at hc; exact Option.some.inj hc
      have hcne : ¬ (c.toNat : Int) = 46 := fun h => HNO.out i hi4 (by rw [hc]; congr 1; apply UInt8.toNat_inj.1; show c.toNat = 46; omega)
      clear hc
      go_wp2
      go_round
      case rel => exact ⟨i + 1, by omega, by omega, by go_num, by first | rfl | trivial⟩
      case measure => simp [RowKit.intOf]; omega
set_option maxHeartbeats 3200000 in
set_option maxRecDepth 100000 in
theorem rParse_ipn (s : List UInt8) (w : World) (h4 : 4 ≤ s.length) (h90 : s.length ≤ 90) (d : Nat) (hi : s.take 4 = ipnP) (hdot : DotAt s d) : Calls Tryd.prog 7 #[.string (B s)] w fun e w' => ParseR s e ∧ Below w.heap.size w w' := by
  obtain ⟨l, hl⟩ : ∃ l, s.drop 4 = l := ⟨_, rfl⟩
  have hll : l.length ≤ 90 := by rw [← hl, List.length_drop]; omega
  have hip : ((s.take 4) == [105, 112, 110, 58]) = true := by simpa [ipnP] using hi
  obtain ⟨hd1, hd2, hd3⟩ := hdot
  have hds : d < s.length := (List.getElem?_eq_some_iff.1 hd2).1
  obtain ⟨x1, hx1⟩ : ∃ x, (s.take d).drop 4 = x := ⟨_, rfl⟩
  obtain ⟨x2, hx2⟩ : ∃ x, s.drop (d + 1) = x := ⟨_, rfl⟩
  have hl1 : x1.length ≤ 1000 := by rw [← hx1, List.length_drop, List.length_take]; omega
  have hl2 : x2.length ≤ 1000 := by rw [← hx2, List.length_drop]; omega
  obtain ⟨a, ha⟩ : ∃ a, valT x1 = a := ⟨_, rfl⟩
  obtain ⟨b, hb⟩ : ∃ b, valT x2 = b := ⟨_, rfl⟩
  have hvb : ∀ x : List UInt8, valT x < 18446744073709551616 := fun x => by have := vtake_lt x 10 (by omega); unfold valT; omega
  have haW : a < 18446744073709551616 := by rw [← ha]; exact hvb x1
  have hbW : b < 18446744073709551616 := by rw [← hb]; exact hvb x2
  have HV1 := Lib.hid fun W => value_any x1 hl1 W
  have HV2 := Lib.hid fun W => value_any x2 hl2 W
  rw [ha] at HV1
  rw [hb] at HV2
  have HG : Hid (rightB 2 [] a b = true → textB 2 [] a b = s → ParseR s (.returned (.tuple #[nmV ⟨2, [], a, b⟩, .int .i64 (0 : Nat)]))) := Lib.hid fun hr ht => ⟨⟨2, [], a, b⟩, 0, rfl, .inl ⟨rfl, hr, ht⟩⟩
  have HB : Hid (¬ (rightB 2 [] a b = true ∧ textB 2 [] a b = s) → ParseR s (.returned (.tuple #[nmV Nm.zero, .int .i64 (2 : Nat)]))) := Lib.hid fun hno => ⟨Nm.zero, 2, rfl, .inr ⟨rfl, rfl, fun m hm he => by
    have := cand_ipn hm he hi ⟨hd1, hd2, hd3⟩
    rw [hx1, hx2, ha, hb] at this
    subst this
    exact hno ⟨hm, he⟩⟩⟩
  have HRT := Lib.hid fun W => rRight_any 2 [] a b W
  have HTX := Lib.hid fun W => rText_any 2 [] a b W (by simp) haW hbW
  have HX1 := Lib.hid hx1
  have HX2 := Lib.hid hx2
  have HD2 := Lib.hid hd2
  have HD3 := Lib.hid hd3
  clear ha hb hx1 hx2 hd2 hd3 hvb
  have h4' : ¬ (s.length : Int) < 4 := by omega
  have h90' : (s.length : Int) ≤ 100 := by omega
  have h4n : 4 ≤ s.length := h4
  have HL := Lib.hid hl
  clear hi hl
  go_enter Tryd.func7, Tryd.ntmps7
  go_wp2_with (with_reducible refine stop_store 25 rfl ?_)
  rw [HL.out]
  refine store_row 25 (.tmp 4) (.tmp 17) rfl rfl rfl (w.heap.size + 1) #[.int .i64 1, .string (B l), .int .u64 0, .int .u64 0] rfl rfl 25 #[.int .i64 0, .string ⟨#[]⟩, .int .u64 0, .int .u64 0] (heap_at (by show (w.heap.push _).size = _; simp)) infoE rfl (by simp [Value.oneCell']) ?_
  obtain ⟨w1, hw1⟩ : ∃ w1, ((w.alloc (.cells #[.int .i64 0, .string ⟨#[]⟩, .int .u64 0, .int .u64 0] 25)).alloc (.cells #[.int .i64 0, .string ⟨#[]⟩, .int .u64 0, .int .u64 0] 25)).setRow (w.heap.size + 1) #[.int .i64 1, .string (B l), .int .u64 0, .int .u64 0] = w1 := ⟨_, rfl⟩
  have gS : w1.heap.size = w.heap.size + 1 + 1 := by rw [← hw1, setRow_size]; show ((w.heap.push _).push _).size = _; simp
  have gb : Below w.heap.size w w1 := by rw [← hw1]; exact setRow_below _ (by omega) (((Below.refl _ _).alloc (Nat.le_refl _) _).alloc (by show w.heap.size ≤ (w.heap.push _).size; simp) _)
  have q1 : w1.heap[w.heap.size]? = some (.cells #[.int .i64 0, .string ⟨#[]⟩, .int .u64 0, .int .u64 0] 25 (0, 0)) := by rw [← hw1, setRow_other _ _ _ _ (by omega)]; exact heap_under (heap_alloc_last w _)
  have q2 : w1.heap[w.heap.size + 1]? = some (.cells #[.int .i64 1, .string (B l), .int .u64 0, .int .u64 0] 25 (0, 0)) := by rw [← hw1]; exact setRow_heap _ _ _ _ _ _ (heap_at (by show (w.heap.push _).size = _; simp))
  rw [hw1]
  clear hw1
  have QR1 := Lib.hid q1
  have QE1 := Lib.hid q2
  have GB1 := Lib.hid gb
  have hzr : w.heap.size < w1.heap.size := by omega
  have hze : w.heap.size + 1 < w1.heap.size := by omega
  clear q1 q2 gb
  go_wp2_with fail
  go_loopw [5] (fun s5 wr => ∃ i : Nat, 4 ≤ i ∧ i ≤ s.length ∧ i ≤ d ∧ s5 = .int .i64 (i : Int) ∧ wr = w1) (fun s5 _ => s.length - (RowKit.intOf s5).toNat)
  case atStart => exact ⟨4, by omega, by omega, by omega, rfl, rfl⟩
  case round =>
    obtain ⟨i, hi4, hil, hid, rfl, hwr⟩ := hrel
    have hwr2 := hwr.symm
    subst hwr2
    clear hwr
    have hlt : (i : Int) < (s.length : Int) := by omega
    have hin : i < s.length := by omega
    by_cases hend : i = d
    · subst hend
      obtain ⟨d, hdd⟩ : ∃ d, i = d := ⟨_, rfl⟩
      have hcg : s[i] = 46 := by have := HD2.out; rw [List.getElem?_eq_getElem hin] at this; exact Option.some.inj this
      have hc46 : ((46 : UInt8).toNat : Int) = 46 := rfl
      clear HD3 HD2 hid
      subst hdd
      generalize i = d at *
      go_wp2_with fail
      have hEr : ∀ W : World, (fun W W' => Below W.heap.size W W') W W := fun W => Below.refl _ _
      refine wp_region_rel 10 1 0 (fun W => Below w1.heap.size w1 W) [33, 34, 35, 36, 37, 38, 39, 40, 41, 42] (relAt [fun zv _ => zv = .string (B s), fun zv _ => zv = .int .i64 (d : Int), fun zv _ => zv = .string (B x1), fun zv _ => zv = .int .u64 (a : Nat), fun zv _ => zv = .string (B s), fun zv _ => zv = .int .i64 (d : Int), fun zv _ => zv = .int .i64 ((d + 1 : Nat) : Int), fun zv _ => zv = .string (B x2), fun zv _ => zv = .int .u64 (b : Nat), fun zv _ => zv = .agg #[.int .i64 2, .string (B []), .int .u64 (a : Nat), .int .u64 (b : Nat)]]) (fun W W' => Below W.heap.size W W') (by kernel_rfl) rfl rfl (by kernel_rfl) (by kernel_rfl) (by kernel_rfl) (by kernel_rfl) (Mono.at ⟨fun _ _ _ _ h => h, fun _ _ _ _ h => h, fun _ _ _ _ h => h, fun _ _ _ _ h => h, fun _ _ _ _ h => h, fun _ _ _ _ h => h, fun _ _ _ _ h => h, fun _ _ _ _ h => h, fun _ _ _ _ h => h, fun _ _ _ _ h => h, trivial⟩) ((Below.refl _ _).drew) ⟨?_, ?_, ?_, ?_, ?_, ?_, ?_, ?_, ?_, ?_, trivial⟩ ?_
      · refine relQuiet 0 rfl rfl hEr (.string (B s)) (fun _ => rfl) fun u wq hS hd => ?_
        simp only [fillL, Act.put, List.setIfInBounds_toArray, List.set_cons_zero, List.set_cons_succ]
        first | kernel_rfl | (show _ = _; kernel_rfl)
      · refine relQuiet 1 rfl rfl hEr (.int .i64 (d : Int)) (fun _ => rfl) fun u wq hS hd => ?_
        simp only [fillL, Act.put, List.setIfInBounds_toArray, List.set_cons_zero, List.set_cons_succ]
        first | kernel_rfl | (show _ = _; kernel_rfl)
      · refine relQuiet 2 rfl rfl hEr (.string (B x1)) (fun _ => rfl) fun u wq hS hd => ?_
        have h0 : u 0 = .string (B s) := hd 0 (by kernel_rfl)
        have h1 : u 1 = .int .i64 (d : Int) := hd 1 (by kernel_rfl)
        simp only [fillL, Act.put, List.setIfInBounds_toArray, List.set_cons_zero, List.set_cons_succ, h0, h1]
        exact runSl1 (.tmp 33) (.tmp 34) rfl s x1 d hd1 (by omega) rfl rfl HX1.out
      · refine relCall 3 rfl rfl 17 fun u wq hS hd => ?_
        have h2 : u 2 = .string (B x1) := hd 2 (by kernel_rfl)
        simp only [fillL, Act.put, List.setIfInBounds_toArray, List.set_cons_zero, List.set_cons_succ, h2]
        refine ⟨#[.string (B x1)], by kernel_rfl, ?_⟩
        refine (HV1.out wq).mono ?_
        rintro e w' ⟨rfl, rfl⟩
        exact ⟨_, rfl, hS, Below.refl _ _, rfl⟩
      · refine relQuiet 4 rfl rfl hEr (.string (B s)) (fun _ => rfl) fun u wq hS hd => ?_
        simp only [fillL, Act.put, List.setIfInBounds_toArray, List.set_cons_zero, List.set_cons_succ]
        first | kernel_rfl | (show _ = _; kernel_rfl)
      · refine relQuiet 5 rfl rfl hEr (.int .i64 (d : Int)) (fun _ => rfl) fun u wq hS hd => ?_
        simp only [fillL, Act.put, List.setIfInBounds_toArray, List.set_cons_zero, List.set_cons_succ]
        first | kernel_rfl | (show _ = _; kernel_rfl)
      · refine relQuiet 6 rfl rfl hEr (.int .i64 ((d + 1 : Nat) : Int)) (fun _ => rfl) fun u wq hS hd => ?_
        have h5 : u 5 = .int .i64 (d : Int) := hd 5 (by kernel_rfl)
        simp only [fillL, Act.put, List.setIfInBounds_toArray, List.set_cons_zero, List.set_cons_succ, h5]
        exact runInc (.tmp 38) _ rfl d (by omega) rfl
      · refine relQuiet 7 rfl rfl hEr (.string (B x2)) (fun _ => rfl) fun u wq hS hd => ?_
        have h4 : u 4 = .string (B s) := hd 4 (by kernel_rfl)
        have h6 : u 6 = .int .i64 ((d + 1 : Nat) : Int) := hd 6 (by kernel_rfl)
        simp only [fillL, Act.put, List.setIfInBounds_toArray, List.set_cons_zero, List.set_cons_succ, h4, h6]
        exact runSl2 (.tmp 37) (.tmp 39) rfl s x2 (d + 1) (by omega) rfl rfl HX2.out
      · refine relCall 8 rfl rfl 17 fun u wq hS hd => ?_
        have h3 : u 3 = .int .u64 (a : Nat) := hd 3 (by kernel_rfl)
        have h7 : u 7 = .string (B x2) := hd 7 (by kernel_rfl)
        simp only [fillL, Act.put, List.setIfInBounds_toArray, List.set_cons_zero, List.set_cons_succ, h3, h7]
        refine ⟨#[.string (B x2)], by kernel_rfl, ?_⟩
        refine (HV2.out wq).mono ?_
        rintro e w' ⟨rfl, rfl⟩
        exact ⟨_, rfl, hS, Below.refl _ _, rfl⟩
      · refine relQuiet 9 rfl rfl hEr (.agg #[.int .i64 2, .string (B []), .int .u64 (a : Nat), .int .u64 (b : Nat)]) (fun _ => rfl) fun u wq hS hd => ?_
        have h3 : u 3 = .int .u64 (a : Nat) := hd 3 (by kernel_rfl)
        have h8 : u 8 = .int .u64 (b : Nat) := hd 8 (by kernel_rfl)
        simp only [fillL, Act.put, List.setIfInBounds_toArray, List.set_cons_zero, List.set_cons_succ, h3, h8]
        first | kernel_rfl | (show _ = _; kernel_rfl)
      intro u w2 hS hv
      have h0 : u 0 = .string (B s) := hv 0 (by decide)
      have h1 : u 1 = .int .i64 (d : Int) := hv 1 (by decide)
      have h2 : u 2 = .string (B x1) := hv 2 (by decide)
      have h3 : u 3 = .int .u64 (a : Nat) := hv 3 (by decide)
      have h4 : u 4 = .string (B s) := hv 4 (by decide)
      have h5 : u 5 = .int .i64 (d : Int) := hv 5 (by decide)
      have h6 : u 6 = .int .i64 ((d + 1 : Nat) : Int) := hv 6 (by decide)
      have h7 : u 7 = .string (B x2) := hv 7 (by decide)
      have h8 : u 8 = .int .u64 (b : Nat) := hv 8 (by decide)
      have h9 : u 9 = .agg #[.int .i64 2, .string (B []), .int .u64 (a : Nat), .int .u64 (b : Nat)] := hv 9 (by decide)
      simp only [fillL, Act.put, List.setIfInBounds_toArray, List.set_cons_zero, List.set_cons_succ, h0, h1, h2, h3, h4, h5, h6, h7, h8, h9]
      clear hEr hv h0 h1 h2 h3 h4 h5 h6 h7 h8 h9
      clear u
      refine wpAny_of_held (S := fun _ => True) _ _ _ _ ?_
      refine oneH 10 rfl rfl (by kernel_rfl) fun K hK => ?_
      refine wpH_store rfl 25 (.tmp 4) (.tmp 42) rfl (w.heap.size + 1) (#[.int .i64 2, .string (B []), .int .u64 a, .int .u64 b]) (_) 25 rfl rfl (heap_below hS hze QE1.out) infoE rfl (by simp [Value.oneCell']) ?_
      refine hK _ _ trivial fun _ => ?_
      clear hK K
      refine wpAnyH_done (by kernel_rfl) ?_ _
      have QE4 := Lib.hid (setRow_heap _ _ _ #[.int .i64 2, .string (B []), .int .u64 a, .int .u64 b] _ _ (heap_below hS hze QE1.out))
      have QR4 := Lib.hid ((setRow_other w2 (w.heap.size + 1) w.heap.size #[.int .i64 2, .string (B []), .int .u64 a, .int .u64 b] (by omega)).trans (heap_below hS hzr QR1.out))
      have GB4 := Lib.hid (setRow_below #[.int .i64 2, .string (B []), .int .u64 a, .int .u64 b] (show w.heap.size ≤ w.heap.size + 1 by omega) (GB1.out.trans (hS.mono (by omega))))
      have hsz : (w2.setRow (w.heap.size + 1) #[.int .i64 2, .string (B []), .int .u64 a, .int .u64 b]).heap.size = w2.heap.size := setRow_size _ _ _
      have hsz2 := hS.size
      replace hzr : w.heap.size < (w2.setRow (w.heap.size + 1) #[.int .i64 2, .string (B []), .int .u64 a, .int .u64 b]).heap.size := by omega
      replace hze : w.heap.size + 1 < (w2.setRow (w.heap.size + 1) #[.int .i64 2, .string (B []), .int .u64 a, .int .u64 b]).heap.size := by omega
      clear hS hsz hsz2 QE1 QR1 GB1
      generalize w2.setRow (w.heap.size + 1) #[.int .i64 2, .string (B []), .int .u64 a, .int .u64 b] = w4 at *
      go_wp2_with (with_reducible refine stop_load 25 rfl ?_)
      refine load_mid 25 (.tmp 4) rfl rfl (some 43) rfl (w.heap.size + 1) 0 rfl #[.int .i64 2, .string (B []), .int .u64 a, .int .u64 b] (rangeAt_row QE4.out) _ Tryd.underlying25 rfl infoE ?_
      go_wp2_with fail
      refine (HRT.out _).mono ?_
      rintro e wz ⟨rfl, hbz⟩
      have QR9 := Lib.hid (heap_below hbz hzr QR4.out)
      have QE9 := Lib.hid (heap_below hbz hze QE4.out)
      have B9 := Lib.hid (GB4.out.trans (hbz.mono GB4.out.size))
      have hzr9 : w.heap.size < wz.heap.size := by have := hbz.size; omega
      have hze9 : w.heap.size + 1 < wz.heap.size := by have := hbz.size; omega
      clear hbz
      generalize hrk : rightB 2 [] a b = rk at *
      cases rk with
      | false =>
        have HP := Lib.hid (HB.out (by simp))
        clear hrk
        go_wp2_with (with_reducible refine stop_store 25 rfl ?_)
        refine store_row 25 (.tmp 2) (.tmp 52) rfl rfl rfl w.heap.size #[.int .i64 0, .string ⟨#[]⟩, .int .u64 0, .int .u64 0] rfl rfl 25 _ QR9.out infoE rfl (by simp [Value.oneCell']) ?_
        go_wp2
        exact post_row_tmp w.heap.size Tryd.results7 25 _ _ (.int .i64 2) rfl rfl (setRow_heap _ _ _ _ _ _ QR9.out) Tryd.underlying25 rfl infoE rfl ⟨HP.out, setRow_below _ (Nat.le_refl _) B9.out⟩
      | true =>
        clear hrk
        go_wp2_with (with_reducible refine stop_load 25 rfl ?_)
        refine load_mid_g 25 (.tmp 4) rfl rfl (some 47) rfl (w.heap.size + 1) 0 rfl #[.int .i64 2, .string (B []), .int .u64 a, .int .u64 b] (rangeAt_row QE9.out) _ Tryd.underlying25 rfl infoE ?_
        go_wp2_with fail
        refine (HTX.out _).mono ?_
        rintro e wy ⟨rfl, hby⟩
        have QR8 := Lib.hid (heap_below hby hzr9 QR9.out)
        have QE8 := Lib.hid (heap_below hby hze9 QE9.out)
        have B8 := Lib.hid (B9.out.trans (hby.mono B9.out.size))
        clear hby
        by_cases hts : textB 2 [] a b = s
        · have HP := Lib.hid (HG.out (by first | rfl | trivial) hts)
          have hd : (textB 2 [] a b == s) = true := by rw [hts]; exact beq_self_eq_true _
          have hd2 : (textB 2 [] a b != s) = false := by rw [hts]; simp
          clear HG HB hts
          generalize textB 2 [] a b = TX at *
          go_wp2_with (with_reducible refine stop_load 25 rfl ?_)
          refine load_mid 25 (.tmp 4) rfl rfl (some 53) rfl (w.heap.size + 1) 0 rfl #[.int .i64 2, .string (B []), .int .u64 a, .int .u64 b] (rangeAt_row QE8.out) _ Tryd.underlying25 rfl infoE ?_
          go_wp2_with (with_reducible refine stop_store 25 rfl ?_)
          refine store_row 25 (.tmp 2) (.tmp 53) rfl rfl rfl w.heap.size #[.int .i64 2, .string (B []), .int .u64 a, .int .u64 b] rfl rfl 25 _ QR8.out infoE rfl (by simp [Value.oneCell']) ?_
          go_wp2
          exact post_row_tmp w.heap.size Tryd.results7 25 _ _ (.int .i64 0) rfl rfl (setRow_heap _ _ _ _ _ _ QR8.out) Tryd.underlying25 rfl infoE rfl ⟨HP.out, setRow_below _ (Nat.le_refl _) B8.out⟩
        · have HP := Lib.hid (HB.out fun h => hts h.2)
          have hd : (textB 2 [] a b == s) = false := by simpa using hts
          have hd2 : (textB 2 [] a b != s) = true := by simpa using hts
          clear HG HB hts
          generalize textB 2 [] a b = TX at *
          go_wp2_with (with_reducible refine stop_store 25 rfl ?_)
          refine store_row 25 (.tmp 2) (.tmp 52) rfl rfl rfl w.heap.size #[.int .i64 0, .string ⟨#[]⟩, .int .u64 0, .int .u64 0] rfl rfl 25 _ QR8.out infoE rfl (by simp [Value.oneCell']) ?_
          go_wp2
          exact post_row_tmp w.heap.size Tryd.results7 25 _ _ (.int .i64 2) rfl rfl (setRow_heap _ _ _ _ _ _ QR8.out) Tryd.underlying25 rfl infoE rfl ⟨HP.out, setRow_below _ (Nat.le_refl _) B8.out⟩
    · obtain ⟨c, hc⟩ : ∃ c, s[i]? = some c := ⟨s[i], List.getElem?_eq_getElem hin⟩
      have hcg : s[i] = c := by rw [List.getElem?_eq_getElem hin] at hc; exact Option.some.inj hc
      have hcne : ¬ (c.toNat : Int) = 46 := fun h => HD3.out i hi4 (by omega) (by rw [hc]; congr 1; apply UInt8.toNat_inj.1; show c.toNat = 46; omega)
      have hid2 : i + 1 ≤ d := by omega
      clear hc hend
      go_wp2
      go_round
      case rel => exact ⟨i + 1, by omega, by omega, by omega, by go_num, by first | rfl | trivial⟩
      case measure => simp [RowKit.intOf]; omega
theorem rParse_any (s : List UInt8) (h90 : s.length ≤ 90) (w : World) : Calls Tryd.prog 7 #[.string (B s)] w fun e w' => ParseR s e ∧ Below w.heap.size w w' := by
  by_cases h4 : s.length < 4
  · exact rParse_short s w h4
  · by_cases hi : s.take 4 = ipnP
    · by_cases hx : ∃ j, 4 ≤ j ∧ s[j]? = some 46
      · obtain ⟨d, ⟨hd1, hd2⟩, hd3⟩ := exists_least hx
        exact rParse_ipn s w (by omega) h90 d hi ⟨hd1, hd2, fun j h1 h2 h3 => hd3 j h2 ⟨h1, h3⟩⟩
      · exact rParse_none s w (by omega) h90 hi fun j h1 h2 => hx ⟨j, h1, h2⟩
    · exact rParse_dtn s w (by omega) h90 hi
end Go.Proofs.YtlbpodddokhmaaaDoor.Fmt
