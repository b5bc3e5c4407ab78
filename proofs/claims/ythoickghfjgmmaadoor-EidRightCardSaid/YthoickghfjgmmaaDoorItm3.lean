/-
  Right items: the walks of the reference's plain and Right, and of the program's right and Right; that they are one.
  Conditions: none.
-/
import Derived.Test.YthoickghfjgmmaaDoorItm2
import Derived.Deep.CutRange
namespace Go.Proofs.YthoickghfjgmmaaDoor.Itm
open Go.ChangeShapes Go.WideShapes Go.ChangeAt Go.RowKit
/-- Is an item, but for what it holds, what its kind may be? -/
def okN (k : Int) (n : Nat) (s : List UInt8) (len : Nat) (o : Bool) : Bool :=
  if k = 0 then decide (s = []) && decide (len = 0) && !o
  else if k = 2 ∨ k = 3 then decide (n = 0) && decide (len = 0) && !o
  else if k = 4 then decide (n = 0) && decide (s = []) && decide (len ≤ 1000)
  else false
theorem okN_true {k : Int} {n : Nat} {s : List UInt8} {len : Nat} {o : Bool} (h : okN k n s len o = true) :
    (k = 0 ∧ s = [] ∧ len = 0 ∧ o = false) ∨ (k = 2 ∧ n = 0 ∧ len = 0 ∧ o = false) ∨ (k = 3 ∧ n = 0 ∧ len = 0 ∧ o = false) ∨ (k = 4 ∧ n = 0 ∧ s = [] ∧ len ≤ 1000) := by
  unfold okN at h
  split at h
  · next h0 => simp at h; exact .inl ⟨h0, h.1.1, h.1.2, h.2⟩
  · split at h
    · next h0 h1 =>
      simp at h
      rcases h1 with h1 | h1
      · exact .inr (.inl ⟨h1, h.1.1, h.1.2, h.2⟩)
      · exact .inr (.inr (.inl ⟨h1, h.1.1, h.1.2, h.2⟩))
    · split at h
      · next h0 h1 h2 => simp at h; exact .inr (.inr (.inr ⟨h2, h.1.1, h.1.2, h.2⟩))
      · cases h
mutual
def plainB : Tr → Bool
  | .mk k n s l o => okN k n s l.length o && plainL l
def plainL : List Tr → Bool
  | [] => true
  | t :: ts => plainB t && plainL ts
end
theorem plainL_eq : ∀ l : List Tr, plainL l = l.all plainB
  | [] => by simp [plainL]
  | t :: ts => by rw [plainL, List.all_cons, plainL_eq ts]
theorem plainB_eq (t : Tr) : plainB t = (okN t.k t.n t.s t.l.length t.o && t.l.all plainB) := by
  obtain ⟨k, n, s, l, o⟩ := t
  rw [plainB, plainL_eq]
  rfl
def rightT : Nat → Tr → Bool
  | 0, _ => false
  | d + 1, t => okN t.k t.n t.s t.l.length t.o && t.l.all (rightT d)
theorem fold_lt {f : Tr → Nat} {b : Nat} : ∀ (l : List Tr) (n : Nat), l.foldl (fun n x => max n (f x)) n ≤ b ↔ n ≤ b ∧ ∀ x ∈ l, f x ≤ b
  | [], n => by simp
  | x :: l, n => by
    rw [List.foldl_cons, fold_lt l]
    simp only [List.mem_cons, forall_eq_or_imp]
    constructor
    · intro ⟨h1, h2⟩; exact ⟨by omega, by omega, h2⟩
    · intro ⟨h1, h2, h3⟩; exact ⟨by omega, h3⟩
theorem rightT_eq : ∀ d t, rightT d t = (decide (deepB (d + 1) t ≤ d) && plainB t)
  | 0, t => by
    have : ¬ deepB 1 t ≤ 0 := by unfold deepB; omega
    rw [decide_eq_false this]
    rfl
  | d + 1, t => by
    rw [plainB_eq t]
    have hd : deepB (d + 2) t ≤ d + 1 ↔ ∀ x ∈ t.l, deepB (d + 1) x ≤ d := by
      show t.l.foldl (fun n x => max n (deepB (d + 1) x)) 0 + 1 ≤ d + 1 ↔ _
      rw [Nat.add_le_add_iff_right, fold_lt]
      simp
    rw [Bool.eq_iff_iff]
    simp only [rightT, Bool.and_eq_true, List.all_eq_true, decide_eq_true_eq, hd]
    constructor
    · intro ⟨h1, h2⟩
      have h3 := fun x hx => by have := h2 x hx; rw [rightT_eq d x, Bool.and_eq_true, decide_eq_true_eq] at this; exact this
      exact ⟨fun x hx => (h3 x hx).1, h1, fun x hx => (h3 x hx).2⟩
    · intro ⟨h1, h2, h3⟩
      exact ⟨h2, fun x hx => by rw [rightT_eq d x, Bool.and_eq_true, decide_eq_true_eq]; exact ⟨h1 x hx, h3 x hx⟩⟩
theorem all_take {f : Tr → Bool} {l : List Tr} {i : Nat} {x : Tr} (h : l[i]? = some x) (ha : (l.take i).all f = true) : (f x = true → (l.take (i + 1)).all f = true) ∧ (f x = false → l.all f = false) := by
  constructor
  · intro hf
    rw [List.take_add_one, h, List.all_append, ha]
    simp [hf]
  · intro hf
    rw [List.all_eq_false]
    exact ⟨x, List.mem_of_getElem? h, by simp [hf]⟩
set_option maxHeartbeats 3200000 in
set_option maxRecDepth 100000 in
theorem plain_any {w0 : World} {t : Tr} {cs : List Value} (h : TAt w0 t cs) : ∀ (w : World), Below w0.heap.size w0 w →
    Calls Tryd.prog 24 #[.agg cs.toArray] w fun e w' => e = .returned (.bool (plainB t)) ∧ Below w.heap.size w w' := by
  induction h with
  | mk k tn s l o a c C hn hs hl hat hel ih =>
    intro w hbw
    obtain ⟨n, hln⟩ : ∃ n, l.length = n := ⟨_, rfl⟩
    have hp : plainB (.mk k tn s l o) = (okN k tn s n o && l.all plainB) := by rw [← hln]; exact plainB_eq _
    have HN := Lib.hid hln
    have HAT := Lib.hid hat
    have IH := Lib.hid ih
    have HEL := Lib.hid hel
    have HP := Lib.hid hp
    rw [hln] at hl
    rw [hln]
    generalize plainB (.mk k tn s l o) = pb at *
    have hml : n ≤ 9223372036854775807 := by unfold R47 at hl; omega
    have HBW := Lib.hid hbw
    have HTN := Lib.hid hn
    clear hln hat ih hel hl hs hbw hp hn
    obtain ⟨w1, hw1⟩ : ∃ w1, w.alloc (.cells #[.int .i64 k, .int .u64 tn, .string (B s), .slice a n c, .bool o] 29) = w1 := ⟨_, rfl⟩
    have gS : w1.heap.size = w.heap.size + 1 := by rw [← hw1]; show (w.heap.push _).size = _; simp
    have gb : Below w.heap.size w w1 := by rw [← hw1]; exact (Below.refl _ _).alloc (Nat.le_refl _) _
    have g0 : w1.cell? ⟨w.heap.size, 0, none⟩ = some (.int .i64 k) := by rw [← hw1, cell_of_row _ _ _ _ _ _ (heap_alloc_last w _)]; rfl
    have g1 : w1.cell? ⟨w.heap.size, 1, none⟩ = some (.int .u64 tn) := by rw [← hw1, cell_of_row _ _ _ _ _ _ (heap_alloc_last w _)]; rfl
    have g2 : w1.cell? ⟨w.heap.size, 2, none⟩ = some (.string (B s)) := by rw [← hw1, cell_of_row _ _ _ _ _ _ (heap_alloc_last w _)]; rfl
    have g3 : w1.cell? ⟨w.heap.size, 3, none⟩ = some (.slice a n c) := by rw [← hw1, cell_of_row _ _ _ _ _ _ (heap_alloc_last w _)]; rfl
    have g4 : w1.cell? ⟨w.heap.size, 4, none⟩ = some (.bool o) := by rw [← hw1, cell_of_row _ _ _ _ _ _ (heap_alloc_last w _)]; rfl
    have G3 := Lib.hid g3
    have GB := Lib.hid gb
    clear gb
    cases hok : okN k tn s n o with
    | false =>
      have HOK := Lib.hid hok
      have hpf : pb = false := by rw [HP.out, hok]; rfl
      subst hpf
      clear hok HP
      go_enter Tryd.func24, Tryd.ntmps24
      go_upto_region 1 with fail
      clear hw1
      go_wp2_with fail
      all_goals first
        | (go_ret; exact ⟨rfl, GB.out⟩)
        | (exfalso; have := HOK.out; simp_all [okN]; done)
        | (exfalso; have h8 := HOK.out; rw [‹k = 4›, ‹tn = 0›, ‹s = []›] at h8; simp [okN] at h8; omega)
    | true =>
      go_enter Tryd.func24, Tryd.ntmps24
      go_upto_region 1 with fail
      clear hw1
      rcases okN_true hok with ⟨rfl, rfl, rfl, rfl⟩ | ⟨rfl, rfl, rfl, rfl⟩ | ⟨rfl, rfl, rfl, rfl⟩ | ⟨rfl, rfl, rfl, hle⟩
      · have hpt : pb = true := by
          have h0 : l = [] := List.length_eq_zero_iff.1 HN.out
          rw [HP.out, hok, h0]; rfl
        subst hpt
        clear hok HP
        go_wp2_with fail
        all_goals
          go_loopw [5] (fun s5 wr => ∃ i : Nat, s5 = .int .i64 (i : Int) ∧ Hid (i = 0) ∧ Below w1.heap.size w1 wr) (fun _ _ => 0)
          case atStart => exact ⟨0, rfl, Lib.hid rfl, Below.refl _ _⟩
          case round =>
            obtain ⟨i, rfl, hi0, hbr⟩ := hrel
            obtain rfl : i = 0 := hi0.out
            have hlt0 : w.heap.size < w1.heap.size := by omega
            have c3 : wr.cell? ⟨w.heap.size, 3, none⟩ = some (.slice a 0 c) := by rw [hbr.cell (p := ⟨w.heap.size, 3, none⟩) hlt0]; exact G3.out
            have HE := Lib.hid (GB.out.trans (hbr.mono (by omega)))
            clear hbr
            go_wp2
            go_ret
            exact ⟨rfl, HE.out⟩
      · have hpt : pb = true := by
          have h0 : l = [] := List.length_eq_zero_iff.1 HN.out
          rw [HP.out, hok, h0]; rfl
        subst hpt
        clear hok HP
        go_wp2_with fail
        all_goals
          go_loopw [5] (fun s5 wr => ∃ i : Nat, s5 = .int .i64 (i : Int) ∧ Hid (i = 0) ∧ Below w1.heap.size w1 wr) (fun _ _ => 0)
          case atStart => exact ⟨0, rfl, Lib.hid rfl, Below.refl _ _⟩
          case round =>
            obtain ⟨i, rfl, hi0, hbr⟩ := hrel
            obtain rfl : i = 0 := hi0.out
            have hlt0 : w.heap.size < w1.heap.size := by omega
            have c3 : wr.cell? ⟨w.heap.size, 3, none⟩ = some (.slice a 0 c) := by rw [hbr.cell (p := ⟨w.heap.size, 3, none⟩) hlt0]; exact G3.out
            have HE := Lib.hid (GB.out.trans (hbr.mono (by omega)))
            clear hbr
            go_wp2
            go_ret
            exact ⟨rfl, HE.out⟩
      · have hpt : pb = true := by
          have h0 : l = [] := List.length_eq_zero_iff.1 HN.out
          rw [HP.out, hok, h0]; rfl
        subst hpt
        clear hok HP
        go_wp2_with fail
        all_goals
          go_loopw [5] (fun s5 wr => ∃ i : Nat, s5 = .int .i64 (i : Int) ∧ Hid (i = 0) ∧ Below w1.heap.size w1 wr) (fun _ _ => 0)
          case atStart => exact ⟨0, rfl, Lib.hid rfl, Below.refl _ _⟩
          case round =>
            obtain ⟨i, rfl, hi0, hbr⟩ := hrel
            obtain rfl : i = 0 := hi0.out
            have hlt0 : w.heap.size < w1.heap.size := by omega
            have c3 : wr.cell? ⟨w.heap.size, 3, none⟩ = some (.slice a 0 c) := by rw [hbr.cell (p := ⟨w.heap.size, 3, none⟩) hlt0]; exact G3.out
            have HE := Lib.hid (GB.out.trans (hbr.mono (by omega)))
            clear hbr
            go_wp2
            go_ret
            exact ⟨rfl, HE.out⟩
      · have hpt : pb = l.all plainB := by rw [HP.out, hok]; rfl
        have HPT := Lib.hid hpt
        clear hok HP hpt
        have hle2 : (n : Int) ≤ 1000 := by omega
        go_upto_region 3 with fail
        go_cut [0, 66] from 17 to 65 (fun s0 s66 wc => s66 = .bool false ∧ wc = w1)
        case first =>
          cases o <;> cases hpos : decide ((0 : Int) < (n : Int))
          all_goals go_wp2
          all_goals go_meet
          all_goals exact ⟨by first | rfl | rw [decide_eq_false (by omega)], rfl⟩
        case rest =>
          obtain ⟨rfl, rfl⟩ := hcut
          clear g0 g1 g2 g3 g4
          go_wp2_with fail
          go_loopw [5] (fun s5 wr => ∃ i : Nat, i ≤ n ∧ s5 = .int .i64 (i : Int) ∧ Hid ((l.take i).all plainB = true) ∧ Below wc.heap.size wc wr) (fun s _ => n - (intOf s).toNat)
          case atStart => exact ⟨0, by omega, rfl, Lib.hid (by simp), Below.refl _ _⟩
          case round =>
            obtain ⟨i, hi, rfl, hal, hb⟩ := hrel
            have hlt0 : w.heap.size < wc.heap.size := by omega
            have c3 : wr.cell? ⟨w.heap.size, 3, none⟩ = some (.slice a n c) := by rw [hb.cell (p := ⟨w.heap.size, 3, none⟩) hlt0]; exact G3.out
            have HE := Lib.hid (GB.out.trans (hb.mono (by omega)))
            by_cases hend : i = n
            · have hlt : ¬ (i : Int) < (n : Int) := by omega
              have hfin := hal.out
              rw [hend, ← HN.out, List.take_length] at hfin
              have HFIN := Lib.hid (HPT.out.trans hfin)
              clear hend hb hfin
              go_wp2
              go_ret
              exact ⟨by rw [HFIN.out]; rfl, HE.out⟩
            · have hlt : (i : Int) < (n : Int) := by omega
              obtain ⟨x, hx⟩ : ∃ x, l[i]? = some x := ⟨l[i]'(by rw [HN.out]; omega), List.getElem?_eq_getElem (by rw [HN.out]; omega)⟩
              obtain ⟨b, f, rfl, hbl, hra⟩ := HAT.out i (by rw [HN.out]; omega)
              have hb0 : Below w0.heap.size w0 wr := HBW.out.trans (HE.out.mono HBW.out.size)
              have HRA := Lib.hid (rangeAt_below hra hb0 hbl)
              have hc5 : (C i).length = 5 := by obtain ⟨_, _, _, he, _⟩ := (HEL.out i x hx).form; rw [he]; rfl
              have HC := Lib.hid (IH.out i x hx wr hb0)
              have HC5 := Lib.hid hc5
              have HB1 := Lib.hid hb
              have hbs := hb.size
              have HAT2 := Lib.hid (all_take hx hal.out)
              clear hend hx hra hb0 hc5 hb hal
              generalize plainB x = px at *
              go_wp2_with (with_reducible refine stop_load 29 rfl ?_)
              refine load_mid 29 (.tmp 77) rfl rfl (some 78) rfl b (f + i * 5) rfl (C i).toArray HRA.out _ Tryd.underlying29 rfl (by rw [List.size_toArray, HC5.out]; exact infoI) ?_
              go_wp2_with fail
              refine HC.out.mono ?_
              rintro e w2 ⟨rfl, hb2⟩
              have HW := Lib.hid (HB1.out.trans (hb2.mono hbs))
              have HWE := Lib.hid (HE.out.trans (hb2.mono HE.out.size))
              clear hb2 HB1 HC
              cases px with
              | true =>
                have HA := Lib.hid (HAT2.out.1 rfl)
                go_wp2
                go_round
                case rel => exact ⟨i + 1, by omega, by go_num, HA, HW.out⟩
                case measure => simp [intOf]; omega
              | false =>
                have HA := Lib.hid (HPT.out.trans (HAT2.out.2 rfl))
                go_wp2
                go_ret
                exact ⟨by rw [HA.out]; rfl, HWE.out⟩
end Go.Proofs.YthoickghfjgmmaaDoor.Itm
