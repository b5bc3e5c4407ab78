/-
  EngineBlind: two ideal engines that are given different texts of the same lengths return the same tags and sealed texts.
  Conditions: none.
-/
import Derived.Test.YtlbpodddokhmaaaEng3
import Derived.Test.YtlbpodddokhmaaaParts
import Derived.BigQuiet
namespace Go.Proofs.Ytlbpodddokhmaaa.EngineBlind
open Go.ChangeShapes Go.WideShapes Go.ChangeAt Go.RowKit Go.Deep Go.Great Go.Proofs.Ytlbpodddokhmaaa.Eng
theorem bel_drewN {B : Nat} {a w : World} (h : Below B a w) (n : Nat) : Below B a (w.drewN n) := ⟨h.os, h.tape, h.output, h.size, h.block⟩
/-- Two ideal engines, apart. -/
structure Two (w : World) (base ib eb jb fb : Nat) (v u : Value) (n m : Nat) (W : World) : Prop where
  e1 : W.cell? ⟨eb, 0, none⟩ = some (.iface 35 (.pointer (some ⟨ib, 0, none⟩)))
  e2 : W.cell? ⟨fb, 0, none⟩ = some (.iface 35 (.pointer (some ⟨jb, 0, none⟩)))
  t1 : TabAt W base ib v n
  t2 : TabAt W base jb u m
  dis : ∀ k, v.ownBlock = some k → u.ownBlock ≠ some k
  bel : Below w.heap.size w W
  bw : base ≤ W.heap.size
theorem engine_kept {W W' : World} {ib eb x : Nat} {row : Option Nat} (h : W.cell? ⟨eb, 0, none⟩ = some (.iface 35 (.pointer (some ⟨ib, 0, none⟩)))) (hk : Kept W W' x row) (hx : eb ≠ x) (hr : row ≠ some eb) : W'.cell? ⟨eb, 0, none⟩ = some (.iface 35 (.pointer (some ⟨ib, 0, none⟩))) := by
  rw [World.cell?_of_block (hk.block eb (World.block_lt_of_cell? W ⟨eb, 0, none⟩ h) hx hr)]; exact h
theorem Two.one {w W W' : World} {base ib eb jb fb n m : Nat} {v u : Value} (h : Two w base ib eb jb fb v u n m W) (ho : OneMore W W' base ib v n) (hi : w.heap.size ≤ ib) (h1 : ib < eb) (h2 : eb < jb) (h3 : jb < fb) (h4 : fb < base) : ∃ v', Two w base ib eb jb fb v' u (n + 1) m W' := by
  obtain ⟨v', hT, hk, hor⟩ := ho
  have hlv := h.t1.lt
  have hlu := h.t2.lt
  refine ⟨v', engine_kept h.e1 hk (by omega) (fun e => by have := (hlv _ e).1; omega), engine_kept h.e2 hk (by omega) (fun e => by have := (hlv _ e).1; omega), hT, h.t2.kept hk (by omega) (fun e => by have := (hlv _ e).1; omega) (fun e => by have := (hlu _ e).1; omega) (fun k hk2 e => h.dis k e hk2), fun k hk2 e => ?_, hk.below h.bel h.bel.size hi (fun k hk2 => by have := (hlv _ hk2).1; omega), Nat.le_trans h.bw hk.size⟩
  rcases hor with h9 | ⟨g, h9, h10⟩
  · exact h.dis k (by rw [← h9]; exact hk2) e
  · rw [h9] at hk2; cases hk2
    have := (hlu _ e).2
    omega
theorem Two.two {w W W' : World} {base ib eb jb fb n m : Nat} {v u : Value} (h : Two w base ib eb jb fb v u n m W) (ho : OneMore W W' base jb u m) (hi : w.heap.size ≤ ib) (h1 : ib < eb) (h2 : eb < jb) (h3 : jb < fb) (h4 : fb < base) : ∃ u', Two w base ib eb jb fb v u' n (m + 1) W' := by
  obtain ⟨u', hT, hk, hor⟩ := ho
  have hlv := h.t1.lt
  have hlu := h.t2.lt
  refine ⟨u', engine_kept h.e1 hk (by omega) (fun e => by have := (hlu _ e).1; omega), engine_kept h.e2 hk (by omega) (fun e => by have := (hlu _ e).1; omega), h.t1.kept hk (by omega) (fun e => by have := (hlu _ e).1; omega) (fun e => by have := (hlv _ e).1; omega) (fun k hk2 e => h.dis k hk2 e), hT, fun k hk2 e => ?_, hk.below h.bel h.bel.size (by omega) (fun k hk2 => by have := (hlu _ hk2).1; omega), Nat.le_trans h.bw hk.size⟩
  rcases hor with h9 | ⟨g, h9, h10⟩
  · exact h.dis k hk2 (by rw [← h9]; exact e)
  · rw [h9] at e; cases e
    have := (hlv _ hk2).2
    omega
theorem Two.below {w W W' : World} {base ib eb jb fb n m : Nat} {v u : Value} (h : Two w base ib eb jb fb v u n m W) (hb : Below W.heap.size W W') : Two w base ib eb jb fb v u n m W' :=
  ⟨by rw [hb.cell (p := ⟨eb, 0, none⟩) (World.block_lt_of_cell? W ⟨eb, 0, none⟩ h.e1)]; exact h.e1, by rw [hb.cell (p := ⟨fb, 0, none⟩) (World.block_lt_of_cell? W ⟨fb, 0, none⟩ h.e2)]; exact h.e2, h.t1.below hb, h.t2.below hb, h.dis, h.bel.trans (hb.mono h.bel.size), Nat.le_trans h.bw hb.size⟩
set_option maxHeartbeats 3200000 in
set_option maxRecDepth 100000 in
theorem blind_law (v1 v2 : Value) (ss tt : List (List UInt8)) (w : World) (hp : PartsAt w v1 ss) (hq : PartsAt w v2 tt) : Calls Try.prog 4 #[v1, v2] w fun e w' => e = .returned (.bool true) ∧ Below w.heap.size w w' := by
  have H0 := Lib.hid awake_any
  obtain ⟨a1, c1, rfl, hp⟩ := hp
  obtain ⟨a2, c2, rfl, hq⟩ := hq
  obtain ⟨n, hn⟩ : ∃ n, ss.length = n := ⟨_, rfl⟩
  obtain ⟨n2, hn2⟩ : ∃ n2, tt.length = n2 := ⟨_, rfl⟩
  rw [hn, hn2]
  by_cases h5 : (n : Int) ≤ 20 ∧ n2 = n
  · obtain ⟨hn20, rfl⟩ := h5
    have hne0 : ((n2 : Int) != (n2 : Int)) = false := by simp
    go_enter Try.func4, Try.ntmps4
    go_wp2_with fail
    refine (H0.out _).mono ?_
    rintro _ W1 ⟨rfl, hb1⟩
    go_wp2_with fail
    refine (ideal_any _).mono ?_
    rintro _ W2 ⟨rfl, hW2⟩
    go_wp2_with fail
    refine (ideal_any _).mono ?_
    rintro _ W3 ⟨rfl, hW3⟩
    have hs2 : W2.heap.size = W1.heap.size + 2 := by rw [← hW2]; simp
    have hs3 : W3.heap.size = W1.heap.size + 4 := by rw [← hW3]; simp [hs2]
    have hb2 : Below w.heap.size w W2 := by rw [← hW2]; exact (hb1.alloc hb1.size _).alloc (by simp; have := hb1.size; omega) _
    have hb3 : Below w.heap.size w W3 := by rw [← hW3]; exact (hb2.alloc hb2.size _).alloc (by simp; have := hb2.size; omega) _
    have hb23 : Below W2.heap.size W2 W3 := by rw [← hW3]; exact ((Below.refl _ _).alloc (Nat.le_refl _) _).alloc (by simp) _
    have g1 : W2.heap[W1.heap.size]? = some (.cells #[.slice none 0 0] 38 (0, 0)) := by rw [← hW2]; exact heap_under (heap_alloc_last W1 _)
    have g2 : W2.cell? ⟨W1.heap.size + 1, 0, none⟩ = some (.iface 35 (.pointer (some ⟨W1.heap.size, 0, none⟩))) := by
      rw [← hW2, cell_of_row _ _ 0 _ _ _ (heap_at (by simp))]
      rfl
    have g3 : W3.heap[W2.heap.size]? = some (.cells #[.slice none 0 0] 38 (0, 0)) := by rw [← hW3]; exact heap_under (heap_alloc_last W2 _)
    have g4 : W3.cell? ⟨W2.heap.size + 1, 0, none⟩ = some (.iface 35 (.pointer (some ⟨W2.heap.size, 0, none⟩))) := by
      rw [← hW3, cell_of_row _ _ 0 _ _ _ (heap_at (by simp))]
      rfl
    have hT : Two w W3.heap.size W1.heap.size (W1.heap.size + 1) W2.heap.size (W2.heap.size + 1) (.slice none 0 0) (.slice none 0 0) 0 0 W3 :=
      ⟨by rw [hb23.cell (p := ⟨W1.heap.size + 1, 0, none⟩) (by show W1.heap.size + 1 < W2.heap.size; omega)]; exact g2, g4, ⟨below_heap hb23 (lt_of_heap g1) g1, [], World.ownsRow_nil _ _ _ _⟩, ⟨g3, [], World.ownsRow_nil _ _ _ _⟩, fun k hk => by simp [Value.ownBlock] at hk, hb3, Nat.le_refl _⟩
    have hib := hb1.size
    obtain ⟨base, hbase⟩ : ∃ base, base = W3.heap.size := ⟨_, rfl⟩
    rw [← hbase] at hT
    obtain ⟨eb, heb⟩ : ∃ eb, eb = W1.heap.size + 1 := ⟨_, rfl⟩
    obtain ⟨fb, hfb⟩ : ∃ fb, fb = W2.heap.size + 1 := ⟨_, rfl⟩
    rw [← heb, ← hfb] at hT ⊢
    obtain ⟨ib, hibe⟩ : ∃ ib, ib = W1.heap.size := ⟨_, rfl⟩
    obtain ⟨jb, hjbe⟩ : ∃ jb, jb = W2.heap.size := ⟨_, rfl⟩
    rw [← hibe, ← hjbe] at hT
    rw [← hibe] at hib
    have i1 : ib < eb := by omega
    have i2 : eb < jb := by omega
    have i3 : jb < fb := by omega
    have i4 : fb < base := by omega
    clear g1 g2 g3 g4 hb23 hb3 hb2 hb1 hW2 hW3 hs2 hs3 hbase heb hfb hibe hjbe
    go_wp2
    go_loopw [8] (fun s8 wr => ∃ (i : Nat) (v u : Value), i ≤ n2 ∧ s8 = .int .i64 (i : Int) ∧ Two w base ib eb jb fb v u (2 * i) (2 * i) wr) (fun s _ => n2 - (intOf s).toNat)
    case atStart => exact ⟨0, _, _, by omega, rfl, hT⟩
    case round =>
      clear hT
      obtain ⟨i, v, u, hi, rfl, hT⟩ := hrel
      by_cases hend : i = n2
      · have hlt : ¬ (i : Int) < (n2 : Int) := by omega
        obtain ⟨e1, e2, ⟨t1, xs1, o1⟩, ⟨t2, xs2, o2⟩, -, hbel, -⟩ := hT
        obtain ⟨p1, k1, f1⟩ := own_form o1
        obtain ⟨p2, k2, f2⟩ := own_form o2
        obtain ⟨l, hl⟩ : ∃ l, 2 * i = l := ⟨_, rfl⟩
        rw [hl] at f1 f2
        have hc1 : wr.cell? ⟨ib, 0, none⟩ = some (.slice p1 l k1) := by rw [← f1, cell_of_row _ _ _ _ _ _ t1]; rfl
        have hc2 : wr.cell? ⟨jb, 0, none⟩ = some (.slice p2 l k2) := by rw [← f2, cell_of_row _ _ _ _ _ _ t2]; rfl
        have HL1 := Lib.hid (len_ideal ⟨eb, 0, none⟩ ⟨ib, 0, none⟩ l k1 p1 wr e1 hc1)
        have HL2 := Lib.hid (len_ideal ⟨fb, 0, none⟩ ⟨jb, 0, none⟩ l k2 p2 wr e2 hc2)
        have hmul : (2 : Int) * (n2 : Int) = (l : Int) := by omega
        clear e1 e2 t1 t2 o1 o2 f1 f2 hc1 hc2 hl
        go_wp2_with fail
        refine HL1.out.mono ?_
        rintro _ _ ⟨rfl, rfl⟩
        go_wp2_with fail
        refine HL2.out.mono ?_
        rintro _ _ ⟨rfl, rfl⟩
        go_wp2_with fail
        refine HL1.out.mono ?_
        rintro _ _ ⟨rfl, rfl⟩
        go_wp2
        go_ret
        exact ⟨by simp, hbel⟩
      · have hlt : (i : Int) < (n2 : Int) := by omega
        obtain ⟨s, hs⟩ : ∃ s, ss[i]? = some s := ⟨ss[i]'(by omega), List.getElem?_eq_getElem (by omega)⟩
        obtain ⟨t, ht⟩ : ∃ t, tt[i]? = some t := ⟨tt[i]'(by omega), List.getElem?_eq_getElem (by omega)⟩
        rcases hp with h0 | ⟨b1, o1, ha1, hb1, hc1, hcell1⟩
        · exfalso; rw [h0] at hn; simp at hn; omega
        rcases hq with h0 | ⟨b2, o2, ha2, hb2, hc2, hcell2⟩
        · exfalso; rw [h0] at hn2; simp at hn2; omega
        subst ha1
        subst ha2
        have hk1 : ∀ W, Below w.heap.size w W → W.cell? ⟨b1, o1 + i, none⟩ = some (.string (B s)) := fun W hW => by rw [hW.cell (p := ⟨b1, o1 + i, none⟩) hb1]; exact hcell1 i s hs
        have hk2 : ∀ W, Below w.heap.size w W → W.cell? ⟨b2, o2 + i, none⟩ = some (.string (B t)) := fun W hW => by rw [hW.cell (p := ⟨b2, o2 + i, none⟩) hb2]; exact hcell2 i t ht
        have hr1 := hk1 wr hT.bel
        have hr2 := hk2 wr hT.bel
        have HK1 := Lib.hid hk1
        have HK2 := Lib.hid hk2
        have HC1 := Lib.hid hcell1
        have HC2 := Lib.hid hcell2
        have HT := Lib.hid hT
        have hn21 := HT.out.bel
        clear hk1 hk2 hcell1 hcell2 hT
        by_cases h60 : decide (60 < (s.length : Int)) = true
        · go_upto_region 8 with fail
          go_quiet (fail)
          have hbq : Below w.heap.size w (wr.drewN nq) := bel_drewN hn21 _
          generalize wr.drewN nq = W0 at *
          clear hr1 hr2
          go_wp2
          go_ret
          exact ⟨rfl, hbq⟩
        · have h60f : decide (60 < (s.length : Int)) = false := by simpa using h60
          by_cases hne : ((t.length : Int) != (s.length : Int)) = true
          · clear h60
            go_upto_region 8 with fail
            go_quiet (fail)
            have hbq : Below w.heap.size w (wr.drewN nq) := bel_drewN hn21 _
            generalize wr.drewN nq = W0 at *
            clear hr1 hr2
            go_wp2
            go_ret
            exact ⟨rfl, hbq⟩
          · have hnef : ((t.length : Int) != (s.length : Int)) = false := by simpa using hne
            have hts : t.length = s.length := by
              have h9 : (t.length : Int) = (s.length : Int) := by simpa using hnef
              omega
            have hs60 : s.length ≤ 60 := by
              have h9 := of_decide_eq_false h60f
              omega
            clear h60 hne
            go_upto_region 8 with fail
            go_quiet (fail)
            have hT0 := HT.out.below (bel_drewN (Below.refl wr.heap.size wr) nq)
            generalize wr.drewN nq = W0 at *
            clear hr1 hr2 HT hn21 h60f hnef
            have hla := freshB_length (2 * i + 1) 64
            have hlx := freshB_length (2 * i + 1 + 1) s.length
            have hlp := freshB_length (2 * i + 1 + 1) 16
            have r0 := HK1.out W0 hT0.bel
            have HS1 := Lib.hid (Sign_any eb base ib (2 * i) 64 v 7 [48, 49, 50, 51, 52, 53, 54, 55, 56, 57, 97, 98, 99, 100, 101, 102] s W0 hT0.e1 hT0.t1 (by decide) (by omega) (by omega) hT0.bw (by omega) (by decide) (by decide) (by decide))
            go_wp2_with fail
            refine HS1.out.mono ?_
            rintro _ Wa ⟨rfl, ho⟩
            obtain ⟨v1, hTa⟩ := hT0.one ho hib i1 i2 i3 i4
            clear HS1 ho hT0 r0
            have r1 := HK2.out Wa hTa.bel
            have HS2 := Lib.hid (Sign_any fb base jb (2 * i) 64 u 7 [48, 49, 50, 51, 52, 53, 54, 55, 56, 57, 97, 98, 99, 100, 101, 102] t Wa hTa.e2 hTa.t2 (by decide) (by omega) (by omega) hTa.bw (by omega) (by decide) (by decide) (by decide))
            generalize freshB (2 * i + 1) 64 = ta at *
            go_wp2_with fail
            refine HS2.out.mono ?_
            rintro _ Wb ⟨rfl, ho⟩
            obtain ⟨u1, hTb⟩ := hTa.two ho hib i1 i2 i3 i4
            clear HS2 ho hTa r1
            have r2 := HK1.out Wb hTb.bel
            have HS3 := Lib.hid (Seal_any eb base ib (2 * i + 1) 16 16 v1 1 [48, 49, 50, 51, 52, 53, 54, 55, 56, 57, 97, 98, 99, 100, 101, 102] [110, 111, 110, 99, 101, 97, 97, 97] [119] s Wb hTb.e1 hTb.t1 (by decide) (by omega) (by omega) (by omega) hTb.bw (by omega) (by decide) (by omega) (by decide) (by decide) (by decide))
            have hs4 := fun v2 Wc (hTc : Two w base ib eb jb fb v2 u1 (2 * i + 1 + 1) (2 * i + 1) Wc) => Seal_any fb base jb (2 * i + 1) 16 16 u1 1 [48, 49, 50, 51, 52, 53, 54, 55, 56, 57, 97, 98, 99, 100, 101, 102] [110, 111, 110, 99, 101, 97, 97, 97] [119] t Wc hTc.e2 hTc.t2 (by decide) (by omega) (by omega) (by omega) hTc.bw (by omega) (by decide) (by omega) (by decide) (by decide) (by decide)
            rw [hts] at hs4
            have HS4 := Lib.hid hs4
            clear hs4
            generalize freshB (2 * i + 1 + 1) 16 = pa at *
            generalize freshB (2 * i + 1 + 1) s.length = made at *
            go_wp2_with fail
            refine HS3.out.mono ?_
            rintro _ Wc ⟨rfl, ho⟩
            obtain ⟨v2, hTc⟩ := hTb.one ho hib i1 i2 i3 i4
            clear HS3 ho hTb r2
            have r3 := HK2.out Wc hTc.bel
            dsimp only
            go_wp2_with fail
            refine (HS4.out v2 Wc hTc).mono ?_
            rintro _ Wd ⟨rfl, ho⟩
            obtain ⟨u2, hTd⟩ := hTc.two ho hib i1 i2 i3 i4
            clear HS4 ho hTc r3
            have r4 := HK1.out Wd hTd.bel
            have q1 : (ta != ta) = false := by simp
            have q2 : (made != made) = false := by simp
            have q3 : (pa != pa) = false := by simp
            have q4 : ((ta.length : Int) != 64) = false := by rw [hla]; rfl
            have q5 : ((pa.length : Int) != 16) = false := by rw [hlp]; rfl
            have q6 : ((made.length : Int) != (s.length : Int)) = false := by rw [hlx]; simp
            rw [show 2 * i + 1 + 1 = 2 * (i + 1) by omega] at hTd
            have HTd := Lib.hid hTd
            clear hTd hla hlp hlx
            go_wp2
            go_round
            case rel => exact ⟨i + 1, v2, u2, by omega, by go_num, HTd.out⟩
            case measure => simp [intOf]; omega
  · have H1 := h5
    by_cases hn20 : (n : Int) ≤ 20
    · have hne : ((n2 : Int) != (n : Int)) = true := by
        have h9 : ¬ n2 = n := fun e => h5 ⟨hn20, e⟩
        exact bne_iff_ne.2 fun e => h9 (Int.ofNat_inj.1 e)
      clear H1 h5
      go_enter Try.func4, Try.ntmps4
      go_wp2_with fail
      refine (H0.out _).mono ?_
      rintro _ W1 ⟨rfl, hb1⟩
      go_wp2_with fail
      refine (H0.out _).mono ?_
      rintro _ W2 ⟨rfl, hb2⟩
      go_wp2
      go_ret
      exact ⟨rfl, hb1.trans (hb2.mono hb1.size)⟩
    · clear H1 h5
      go_enter Try.func4, Try.ntmps4
      go_wp2_with fail
      refine (H0.out _).mono ?_
      rintro _ W1 ⟨rfl, hb1⟩
      go_wp2_with fail
      refine (H0.out _).mono ?_
      rintro _ W2 ⟨rfl, hb2⟩
      go_wp2
      go_ret
      exact ⟨rfl, hb1.trans (hb2.mono hb1.size)⟩
set_option maxRecDepth 100000 in
theorem walk (W : World) (base : Nat) (args : Array Value) {H : Type} {enc : TypeId × Value → H} (ds : List (DataW H)) (ps : List MemPlace)
    (hval : ∀ (j : Nat) t v, Try.f4.params[j]? = some t → args[j]? = some v → Value.okWide Try.prog W .any base t v)
    (hA : DataW.TrodAll enc Try.prog W 0 (fun _ => true) true Try.f4.params.toList args.toList ds ps)
    (hlt : ∀ p ∈ ps, p.block < W.heap.size) :
    Calls Try.prog 4 args W fun e W' => e = .returned (.bool true) ∧ Below W.heap.size W W' := by
  rw [Try.params4] at hA hval
  obtain ⟨v0, v1, d0, d1, p, q, rfl, rfl, rfl, h0, h1⟩ := trodAll_two hA
  obtain ⟨ss, hs⟩ := open_parts Try.underlying25 Try.underlying9 (by kernel_rfl) (hval 0 25 v0 rfl rfl) h0
  obtain ⟨tt, ht⟩ := open_parts Try.underlying25 Try.underlying9 (by kernel_rfl) (hval 1 25 v1 rfl rfl) h1
  exact blind_law v0 v1 ss tt W hs ht
set_option maxRecDepth 100000 in
theorem lifted (os : Os) (started : os.Started) (H : Type) (enc : TypeId × Value → H) :
    ReturnsInHanded {} Try.checked os 4 .any (Rows.engineBlindSpec.pre6 enc Try.prog Try.f4 Rows.engineBlindRow.domain false) (Rows.engineBlindSpec.post enc Try.prog Try.f4 false true false false) :=
  law_lift (C := Try.checked) (tb := 4) (by kernel_rfl) started (by kernel_rfl) Try.func4
    (ChangeSpec.witness6 (enc := enc) (C := Try.checked) false ⟨#[], #[.slice none 0 0, .slice none 0 0], []⟩ 8 (by kernel_rfl) (by kernel_rfl) (by kernel_rfl) (by kernel_rfl))
    (by kernel_rfl) (by kernel_rfl) rfl (by kernel_rfl) Try.underlying4 (fun ds h => by match ds, h with | [_, _], _ => exact ⟨rfl, rfl, rfl⟩)
    (fun W base args ds ps hval hA hlt => walk W base args ds ps hval hA hlt)
theorem over : Rows.engineBlindRow.holds Try.pinned (OpenSpec.ofChange Rows.engineBlindSpec) :=
  OpenClaim.holds_of_wide 4 Try.f4 rfl rfl rfl rfl rfl rfl rfl ⟨rfl, rfl, rfl, rfl, rfl⟩ rfl rfl rfl rfl rfl (by kernel_rfl) Try.func4 (by kernel_rfl)
    (of_decide_eq_true (by kernel_rfl)) (by unfold Func.isWrapper; rw [if_neg (of_decide_eq_false (by kernel_rfl))]; exact ⟨rfl, rfl⟩)
    (fun os started H enc _ => lifted os started H enc)
theorem proved : Rows.EngineBlindSaid := over
#print axioms proved
end Go.Proofs.Ytlbpodddokhmaaa.EngineBlind
