/-
  The walks of the reference for items: Deep, Count, Few; what an item's measures are.
  Conditions: none.
-/
import Derived.Test.YthoickghfjgmmaaDoorItm
namespace Go.Proofs.YthoickghfjgmmaaDoor.Itm
open Go.ChangeShapes Go.WideShapes Go.ChangeAt Go.RowKit
def deepB : Nat → Tr → Nat
  | 0, _ => 1
  | m + 1, t => t.l.foldl (fun n x => max n (deepB m x)) 0 + 1
theorem fold_le {f : Tr → Nat} {b : Nat} (hf : ∀ x, f x ≤ b) : ∀ (l : List Tr) (n : Nat), n ≤ b → l.foldl (fun n x => max n (f x)) n ≤ b
  | [], n, h => h
  | x :: l, n, h => by
    rw [List.foldl_cons]
    exact fold_le hf l _ (by have := hf x; omega)
theorem deepB_le : ∀ m t, deepB m t ≤ m + 1
  | 0, _ => Nat.le_refl _
  | m + 1, t => by
    unfold deepB
    have := fold_le (deepB_le m) t.l 0 (by omega)
    omega
theorem fold_take {f : Tr → Nat} (l : List Tr) (i : Nat) (x : Tr) (h : l[i]? = some x) : (l.take (i + 1)).foldl (fun n x => max n (f x)) 0 = max ((l.take i).foldl (fun n x => max n (f x)) 0) (f x) := by
  rw [List.take_add_one, h, List.foldl_append]
  rfl
theorem infoI : (Tryd.prog.info? 29).map (·.size) = some 5 := by kernel_rfl
/-- What is at hand of an item's box. -/
theorem box_item {w : World} {t : Tr} {cs : List Value} (h : TAt w t cs) : ∃ (a : Option Addr) (c : Nat) (C : Nat → List Value), cs = [.int .i64 t.k, .int .u64 t.n, .string (B t.s), .slice a t.l.length c, .bool t.o] ∧ t.n < W64 ∧ t.s.length ≤ R47 ∧ t.l.length ≤ R47 ∧
    (∀ i x, t.l[i]? = some x → ∃ b f, a = some ⟨b, f, none⟩ ∧ b < w.heap.size ∧ w.rangeAt b (f + i * 5) (C i) ∧ TAt w x (C i) ∧ (C i).length = 5) := by
  obtain ⟨a, c, C, rfl, hn, hs, hl, hat, hel⟩ := h.form
  refine ⟨a, c, C, rfl, hn, hs, hl, fun i x hx => ?_⟩
  obtain ⟨b, f, hb, hbl, hr⟩ := hat i (List.getElem?_eq_some_iff.1 hx).1
  refine ⟨b, f, hb, hbl, hr, hel i x hx, ?_⟩
  obtain ⟨_, _, _, hc, _⟩ := (hel i x hx).form
  rw [hc]; rfl
set_option maxHeartbeats 1600000 in
set_option maxRecDepth 100000 in
theorem Deep_any : ∀ (m : Nat), m ≤ 9 → ∀ (t : Tr) (cs : List Value) (w : World), TAt w t cs →
    Calls Tryd.prog 23 #[.agg cs.toArray, .int .i64 m] w fun e w' => e = .returned (.int .i64 (deepB m t)) ∧ Below w.heap.size w w' := by
  intro m
  induction m with
  | zero =>
    intro _ t cs w h
    obtain ⟨a, c, C, rfl, _⟩ := box_item h
    clear h
    go_enter Tryd.func23, Tryd.ntmps23
    go_wp2
    go_ret
    exact ⟨rfl, by ((repeat' (with_reducible first | exact Below.refl _ _ | assumption | refine Below.drew ?_ | refine below_drewN ?_ _ | refine Below.setCell ?_ ?_ _ | refine Below.alloc ?_ ?_ _ | refine Below.ext ?_ ?_ _ | refine Below.trans ?_ (Below.mono ‹_› ?_))) <;> first | omega | (simp; done) | (simp; omega))⟩
  | succ m ih =>
    intro hm t cs w h
    obtain ⟨a, c, C, rfl, _, _, hll, hel⟩ := box_item h
    obtain ⟨n, hn⟩ : ∃ n, t.l.length = n := ⟨_, rfl⟩
    rw [hn] at hll
    rw [hn]
    have HN := Lib.hid hn
    have HEL := Lib.hid hel
    obtain ⟨z, hz⟩ : ∃ z : Int, ((m + 1 : Nat) : Int) = z := ⟨_, rfl⟩
    have hzm : z - 1 = (m : Int) := by omega
    have hz1 : 1 ≤ z := by omega
    have hz9 : z ≤ 9 := by omega
    have IH := Lib.hid (ih (by omega))
    rw [← hzm] at IH
    rw [hz]
    clear hz hzm
    have hml : n ≤ 9223372036854775807 := by unfold R47 at hll; omega
    have hm9 : m < 9 := by omega
    have HB := Lib.hid fun l => fold_le (deepB_le m) l 0 (by omega)
    have HD : Hid (deepB (m + 1) t = t.l.foldl (fun n x => max n (deepB m x)) 0 + 1) := Lib.hid rfl
    generalize deepB (m + 1) t = dd at *
    generalize t.k = tk at *
    generalize t.n = tn at *
    generalize t.s = ts at *
    generalize t.o = tob at *
    clear hn hel ih h hll
    go_enter Tryd.func23, Tryd.ntmps23
    go_wp2_with fail
    obtain ⟨w1, hw1⟩ : ∃ w1, w.alloc (.cells #[.int .i64 tk, .int .u64 tn, .string (B ts), .slice a n c, .bool tob] 29) = w1 := ⟨_, rfl⟩
    have gS : w1.heap.size = w.heap.size + 1 := by rw [← hw1]; show (w.heap.push _).size = _; simp
    have gb : Below w.heap.size w w1 := by rw [← hw1]; exact (Below.refl _ _).alloc (Nat.le_refl _) _
    have g3 : w1.cell? ⟨w.heap.size, 3, none⟩ = some (.slice a n c) := by rw [← hw1, cell_of_row _ _ _ _ _ _ (heap_alloc_last w _)]; rfl
    rw [hw1]
    clear hw1
    have G3 := Lib.hid g3
    have GB := Lib.hid gb
    clear g3 gb
    go_loopw [5, 6] (fun s5 s6 wr => ∃ i : Nat, i ≤ n ∧ s6 = .int .i64 (i : Int) ∧ s5 = .int .i64 ((t.l.take i).foldl (fun n x => max n (deepB m x)) 0 : Nat) ∧ Below w1.heap.size w1 wr) (fun _ s _ => n - (intOf s).toNat)
    case atStart => exact ⟨0, by omega, rfl, rfl, Below.refl _ _⟩
    case round =>
      obtain ⟨i, hi, rfl, rfl, hb⟩ := hrel
      have hlt0 : w.heap.size < w1.heap.size := by omega
      have c3 : wr.cell? ⟨w.heap.size, 3, none⟩ = some (.slice a n c) := by rw [hb.cell (p := ⟨w.heap.size, 3, none⟩) hlt0]; exact G3.out
      have hf := HB.out (t.l.take i)
      have HE := Lib.hid (GB.out.trans (hb.mono (by omega)))
      by_cases hend : i = n
      · have hlt : ¬ (i : Int) < (n : Int) := by omega
        have hq : (t.l.take i).foldl (fun n x => max n (deepB m x)) 0 = t.l.foldl (fun n x => max n (deepB m x)) 0 := by rw [hend, ← HN.out, List.take_length]
        rw [hq] at hf ⊢
        have hd := HD.out
        generalize t.l.foldl (fun n x => max n (deepB m x)) 0 = q at *
        subst hd
        clear hend hb hq
        go_wp2
        go_ret
        exact ⟨ret_int (by simp), HE.out⟩
      · have hlt : (i : Int) < (n : Int) := by omega
        obtain ⟨x, hx⟩ : ∃ x, t.l[i]? = some x := ⟨t.l[i]'(by rw [HN.out]; omega), List.getElem?_eq_getElem (by rw [HN.out]; omega)⟩
        obtain ⟨b, f, rfl, hbl, hra, hta, hc5⟩ := HEL.out i x hx
        have HNX := Lib.hid (fold_take (f := deepB m) t.l i x hx)
        have hb1 : Below w.heap.size w wr := HE.out
        have HRA := Lib.hid (rangeAt_below hra hb1 hbl)
        have HC := Lib.hid (IH.out x (C i) wr (hta.keep hb1 (Nat.le_refl _)))
        have hdl := deepB_le m x
        have HC5 := Lib.hid hc5
        have HB1 := Lib.hid hb
        have hbs := hb.size
        clear hend hx hra hta hb1 hc5 hb
        generalize (t.l.take i).foldl (fun n x => max n (deepB m x)) 0 = q at *
        go_wp2_with (with_reducible refine stop_load 29 rfl ?_)
        refine load_mid 29 (.tmp 20) rfl rfl (some 21) rfl b (f + i * 5) rfl (C i).toArray HRA.out _ Tryd.underlying29 rfl (by rw [List.size_toArray, HC5.out]; exact infoI) ?_
        go_wp2_with fail
        refine HC.out.mono ?_
        rintro e w2 ⟨rfl, hb2⟩
        have HW := Lib.hid (HB1.out.trans (hb2.mono hbs))
        clear hb2 HB1 HC
        generalize deepB m x = d at *
        have hqd : q ≤ 100 := by omega
        have hdd : d ≤ 100 := by omega
        go_wp2
        go_round
        case rel => exact ⟨i + 1, by omega, by go_num, by rw [HNX.out]; go_num, HW.out⟩
        case measure => simp [intOf]; omega
mutual
/-- How many items and bytes. -/
def szT : Tr → Nat
  | .mk _ _ s l _ => 1 + s.length + szL l
def szL : List Tr → Nat
  | [] => 0
  | t :: ts => szT t + szL ts
end
theorem szL_append : ∀ a b, szL (a ++ b) = szL a + szL b
  | [], b => by simp [szL]
  | x :: a, b => by rw [List.cons_append, szL, szL, szL_append a b]; omega
theorem szL_take {l : List Tr} {i : Nat} {x : Tr} (h : l[i]? = some x) : szL (l.take (i + 1)) = szL (l.take i) + szT x := by
  rw [List.take_add_one, h, szL_append]
  simp [szL]
def CountP (m : Nat) (t : Tr) (e : Ending) : Prop := ∃ c : Nat, e = .returned (.int .i64 c) ∧ (c ≤ m → c = szT t) ∧ c ≤ 140737488355329 + m
set_option maxHeartbeats 1600000 in
set_option maxRecDepth 100000 in
theorem Count_any {w0 : World} {t : Tr} {cs : List Value} (h : TAt w0 t cs) : ∀ (m : Nat) (w : World), m ≤ 1000 → Below w0.heap.size w0 w →
    Calls Tryd.prog 10 #[.agg cs.toArray, .int .i64 m] w fun e w' => CountP m t e ∧ Below w.heap.size w w' := by
  induction h with
  | mk k tn s l o a c C hn hs hl hat hel ih =>
    intro m w hm hbw
    obtain ⟨n, hln⟩ : ∃ n, l.length = n := ⟨_, rfl⟩
    have HN := Lib.hid hln
    have HAT := Lib.hid hat
    have IH := Lib.hid ih
    have HEL := Lib.hid hel
    rw [hln] at hl
    rw [hln]
    have hml : n ≤ 140737488355328 := by unfold R47 at hl; omega
    have hsl : s.length ≤ 140737488355328 := by unfold R47 at hs; omega
    have HBW := Lib.hid hbw
    have HSZ : Hid (szT (.mk k tn s l o) = 1 + s.length + szL l) := Lib.hid (by rw [szT])
    generalize szT (.mk k tn s l o) = total at *
    clear hln hat ih hel hl hs hbw
    obtain ⟨q, hq⟩ : ∃ q : Int, (tn : Int) = q := ⟨_, rfl⟩
    rw [hq]
    clear hq
    go_enter Tryd.func10, Tryd.ntmps10
    go_wp2_with fail
    obtain ⟨w1, hw1⟩ : ∃ w1, w.alloc (.cells #[.int .i64 k, .int .u64 q, .string (B s), .slice a n c, .bool o] 29) = w1 := ⟨_, rfl⟩
    have gS : w1.heap.size = w.heap.size + 1 := by rw [← hw1]; show (w.heap.push _).size = _; simp
    have gb : Below w.heap.size w w1 := by rw [← hw1]; exact (Below.refl _ _).alloc (Nat.le_refl _) _
    have g3 : w1.cell? ⟨w.heap.size, 3, none⟩ = some (.slice a n c) := by rw [← hw1, cell_of_row _ _ _ _ _ _ (heap_alloc_last w _)]; rfl
    rw [hw1]
    clear hw1
    have G3 := Lib.hid g3
    have GB := Lib.hid gb
    clear g3 gb
    go_loopw [5, 6] (fun s5 s6 wr => ∃ (i y : Nat), i ≤ n ∧ s6 = .int .i64 (i : Int) ∧ s5 = .int .i64 (y : Int) ∧ Hid (y ≤ m → y = 1 + s.length + szL (l.take i)) ∧ y ≤ 140737488355329 + m ∧ Below w1.heap.size w1 wr) (fun _ s _ => n - (intOf s).toNat)
    case atStart => exact ⟨0, 1 + s.length, by omega, rfl, by go_num, Lib.hid (fun _ => by simp [szL]), by omega, Below.refl _ _⟩
    case round =>
      obtain ⟨i, y, hi, rfl, rfl, HY, hyb, hb⟩ := hrel
      have hlt0 : w.heap.size < w1.heap.size := by omega
      have c3 : wr.cell? ⟨w.heap.size, 3, none⟩ = some (.slice a n c) := by rw [hb.cell (p := ⟨w.heap.size, 3, none⟩) hlt0]; exact G3.out
      have HE := Lib.hid (GB.out.trans (hb.mono (by omega)))
      by_cases hend : i = n
      · have hlt : ¬ (i : Int) < (n : Int) := by omega
        have HP : Hid (CountP m (.mk k tn s l o) (.returned (.int .i64 (y : Int)))) := Lib.hid ⟨y, rfl, fun hle => by
          have := HY.out hle
          rw [hend, ← HN.out, List.take_length] at this
          rw [szT]; exact this, hyb⟩
        clear hend hb
        go_wp2
        go_ret
        exact ⟨HP.out, HE.out⟩
      · have hlt : (i : Int) < (n : Int) := by omega
        obtain ⟨x, hx⟩ : ∃ x, l[i]? = some x := ⟨l[i]'(by rw [HN.out]; omega), List.getElem?_eq_getElem (by rw [HN.out]; omega)⟩
        obtain ⟨b, f, rfl, hbl, hra⟩ := HAT.out i (by rw [HN.out]; omega)
        have hb0 : Below w0.heap.size w0 wr := HBW.out.trans (HE.out.mono HBW.out.size)
        have HRA := Lib.hid (rangeAt_below hra hb0 hbl)
        have hc5 : (C i).length = 5 := by obtain ⟨_, _, _, he, _⟩ := (HEL.out i x hx).form; rw [he]; rfl
        have HC5 := Lib.hid hc5
        have HB1 := Lib.hid hb
        have hbs := hb.size
        have HTK := Lib.hid (szL_take hx)
        by_cases hyz : y ≤ m
        · have HC := Lib.hid (IH.out i x hx (m - y) wr (by omega) hb0)
          have hsub : (m : Int) - (y : Int) = ((m - y : Nat) : Int) := by omega
          have hle : (y : Int) ≤ (m : Int) := by omega
          rw [← hsub] at HC
          clear hend hx hra hb0 hc5 hb hsub
          go_wp2_with (with_reducible refine stop_load 29 rfl ?_)
          refine load_mid 29 (.tmp 27) rfl rfl (some 28) rfl b (f + i * 5) rfl (C i).toArray HRA.out _ Tryd.underlying29 rfl (by rw [List.size_toArray, HC5.out]; exact infoI) ?_
          go_wp2_with fail
          refine HC.out.mono ?_
          rintro e w2 ⟨⟨d, rfl, hd1, hd2⟩, hb2⟩
          have HW := Lib.hid (HB1.out.trans (hb2.mono hbs))
          have HY2 : Hid (y + d ≤ m → y + d = 1 + s.length + szL (l.take (i + 1))) := Lib.hid fun h => by
            have h1 := HY.out (by omega)
            have h2 := hd1 (by omega)
            rw [HTK.out]
            omega
          have hyd : y + d ≤ 140737488355329 + m := by omega
          clear hb2 HB1 HC hd1 HY
          go_wp2
          go_round
          case rel => exact ⟨i + 1, y + d, by omega, by go_num, by go_num, HY2, hyd, HW.out⟩
          case measure => simp [intOf]; omega
        · have hle : ¬ (y : Int) ≤ (m : Int) := by omega
          have HP : Hid (CountP m (.mk k tn s l o) (.returned (.int .i64 (y : Int)))) := Lib.hid ⟨y, rfl, fun h => absurd h hyz, hyb⟩
          clear hend hx hra hb0 hc5 hb
          go_wp2
          go_ret
          exact ⟨HP.out, HE.out⟩
end Go.Proofs.YthoickghfjgmmaaDoor.Itm
