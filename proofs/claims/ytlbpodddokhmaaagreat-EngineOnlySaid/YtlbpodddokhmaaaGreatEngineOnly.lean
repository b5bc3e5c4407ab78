/-
  EngineOnly: with an ideal engine a tag holds only for the text and key for which it was made, and a sealed text is opened only with its key, nonce and associated data.
  Conditions: none.
-/
import Derived.Test.YtlbpodddokhmaaaGreatEngZ
import Derived.Test.YtlbpodddokhmaaaGreatOpen
import Derived.Test.YtlbpodddokhmaaaGreatOpen2
import Derived.BigQuiet
namespace Go.Proofs.YtlbpodddokhmaaaGreat.EngineOnly
open Go.ChangeShapes Go.WideShapes Go.ChangeAt Go.RowKit Go.Deep Go.Great Go.Proofs.YtlbpodddokhmaaaGreat.Eng Go.Proofs.YtlbpodddokhmaaaGreat.EngX
def arr (o : Opp) : Array Value := #[.int .u8 o.kd, .int .i64 o.vr, .string (B o.k), .string (B o.nn), .string (B o.wt), .string (B o.t), .string (B o.tg), .int .u8 o.bk]
theorem rSignsB_any (key : List UInt8) (w : World) : Calls Tryz.prog 19 #[.int .i64 5, .string (B key)] w fun e w' => e = .returned (.bool (signOk key)) ∧ Below w.heap.size w w' := (rSigns_any key w).mono fun _ _ ⟨a, b⟩ => ⟨a, by rw [← b]; exact Below.refl _ _⟩
theorem cells2 {W0 W : World} {b : Nat} {o : Opp} (h : W0.heap[b]? = some (.cells (arr o) 31 (0, 0))) (hb : Below W0.heap.size W0 W) (j : Nat) : W.cell? ⟨b, j, none⟩ = (arr o)[j]? := by
  rw [cell_of_row _ _ j _ _ _ (below_heap hb (lt_of_heap h) h)]
theorem bel_drewN {B : Nat} {a w : World} (h : Below B a w) (n : Nat) : Below B a (w.drewN n) := ⟨h.os, h.tape, h.output, h.size, h.block⟩
theorem engine_keptX {W W' : World} {ib eb x : Nat} {row : Option Nat} (h : W.cell? ⟨eb, 0, none⟩ = some (.iface 56 (.pointer (some ⟨ib, 0, none⟩)))) (hk : EngX.Kept W W' x row) (hx : eb ≠ x) (hr : row ≠ some eb) : W'.cell? ⟨eb, 0, none⟩ = some (.iface 56 (.pointer (some ⟨ib, 0, none⟩))) := by
  rw [World.cell?_of_block (hk.block eb (World.block_lt_of_cell? W ⟨eb, 0, none⟩ h) hx hr)]; exact h
def openV (f : Option Ent) : Value := match f with | some e => .tuple #[.string (B e.t), .int .i64 0] | none => .tuple #[.string (B []), .int .i64 7]
theorem Open_anyV (eb base ib k : Nat) (v : Value) (es : List Ent) (vr : Int) (key nonce wth made tag : List UInt8) (w : World) (he : w.cell? ⟨eb, 0, none⟩ = some (.iface 56 (.pointer (some ⟨ib, 0, none⟩)))) (hT : TabE w base ib v es) (h0 : 0 < es.length) (hn : es.length ≤ 1000)
    (hkb : Eng.keyBytes vr = (k : Int)) (hk0 : 0 < k) (hk : key.length = k) (h8 : 8 ≤ (nonce.length : Int)) (h16 : (nonce.length : Int) ≤ 16) :
    Calls Tryz.prog 16 #[.pointer (some ⟨eb, 0, none⟩), .int .i64 vr, .string (B key), .string (B nonce), .string (B wth), .string (B made), .string (B tag)] w fun e w' => e = .returned (openV (es.find? (matchO vr key nonce wth made tag))) ∧ Below w.heap.size w w' :=
  (EngX.Open_any eb base ib k v es vr key nonce wth made tag w he hT h0 hn hkb hk0 hk h8 h16).mono fun e w' h => by
    refine ⟨?_, h.2⟩
    rw [h.1]
    unfold openV
    cases es.find? (matchO vr key nonce wth made tag) <;> rfl
set_option maxHeartbeats 3200000 in
set_option maxRecDepth 100000 in
theorem only_law (o p : Opp) (w : World) : Calls Tryz.prog 5 #[.agg (arr o), .agg (arr p)] w fun e w' => e = .returned (.bool true) ∧ Below w.heap.size w w' := by
  have H0 := Lib.hid awake_any
  have hob : ((w.alloc (.cells (arr o) 31)).alloc (.cells (arr p) 31)).heap[w.heap.size]? = some (.cells (arr o) 31 (0, 0)) := heap_under (heap_alloc_last w _)
  have hpb : ((w.alloc (.cells (arr o) 31)).alloc (.cells (arr p) 31)).heap[w.heap.size + 1]? = some (.cells (arr p) 31 (0, 0)) := heap_at (by simp)
  have hbel0 : Below w.heap.size w ((w.alloc (.cells (arr o) 31)).alloc (.cells (arr p) 31)) := by ((repeat' (with_reducible first | exact Below.refl _ _ | assumption | refine Below.drew ?_ | refine below_drewN ?_ _ | refine Below.setCell ?_ ?_ _ | refine Below.alloc ?_ ?_ _ | refine Below.ext ?_ ?_ _ | refine Below.trans ?_ (Below.mono ‹_› ?_))) <;> first | omega | (simp; done) | (simp; omega))
  have HFEW := Lib.hid fun g W h => rFew_any g o p W h
  have HSO := Lib.hid fun W => rSignsB_any o.k W
  have HSP := Lib.hid fun W => rSignsB_any p.k W
  obtain ⟨okd, ovr, ok, on, ow, ot, otg, obk⟩ := o
  obtain ⟨pkd, pvr, pk, pn, pw, pt, ptg, pbk⟩ := p
  unfold arr at *
  simp only at *
  go_enter Tryz.func5, Tryz.ntmps5
  go_wp2_with fail
  generalize (w.alloc (.cells #[.int .u8 okd, .int .i64 ovr, .string (B ok), .string (B on), .string (B ow), .string (B ot), .string (B otg), .int .u8 obk] 31)).alloc (.cells #[.int .u8 pkd, .int .i64 pvr, .string (B pk), .string (B pn), .string (B pw), .string (B pt), .string (B ptg), .int .u8 pbk] 31) = W0 at *
  obtain ⟨ob, hobe⟩ : ∃ ob, ob = w.heap.size := ⟨_, rfl⟩
  obtain ⟨pb, hpbe⟩ : ∃ pb, pb = w.heap.size + 1 := ⟨_, rfl⟩
  rw [← hobe] at hob
  rw [← hpbe] at hpb
  have HOC := Lib.hid (show ∀ W, Below W0.heap.size W0 W → W.cell? ⟨ob, 0, none⟩ = some (.int .u8 okd) ∧ W.cell? ⟨ob, 1, none⟩ = some (.int .i64 ovr) ∧ W.cell? ⟨ob, 2, none⟩ = some (.string (B ok)) ∧ W.cell? ⟨ob, 3, none⟩ = some (.string (B on)) ∧ W.cell? ⟨ob, 4, none⟩ = some (.string (B ow)) ∧ W.cell? ⟨ob, 5, none⟩ = some (.string (B ot)) ∧ W.cell? ⟨ob, 6, none⟩ = some (.string (B otg)) ∧ W.cell? ⟨ob, 7, none⟩ = some (.int .u8 obk) from fun W hW => ⟨by rw [cell_of_row _ _ _ _ _ _ (below_heap hW (lt_of_heap hob) hob)]; rfl, by rw [cell_of_row _ _ _ _ _ _ (below_heap hW (lt_of_heap hob) hob)]; rfl, by rw [cell_of_row _ _ _ _ _ _ (below_heap hW (lt_of_heap hob) hob)]; rfl, by rw [cell_of_row _ _ _ _ _ _ (below_heap hW (lt_of_heap hob) hob)]; rfl, by rw [cell_of_row _ _ _ _ _ _ (below_heap hW (lt_of_heap hob) hob)]; rfl, by rw [cell_of_row _ _ _ _ _ _ (below_heap hW (lt_of_heap hob) hob)]; rfl, by rw [cell_of_row _ _ _ _ _ _ (below_heap hW (lt_of_heap hob) hob)]; rfl, by rw [cell_of_row _ _ _ _ _ _ (below_heap hW (lt_of_heap hob) hob)]; rfl⟩)
  have HPC := Lib.hid (show ∀ W, Below W0.heap.size W0 W → W.cell? ⟨pb, 0, none⟩ = some (.int .u8 pkd) ∧ W.cell? ⟨pb, 1, none⟩ = some (.int .i64 pvr) ∧ W.cell? ⟨pb, 2, none⟩ = some (.string (B pk)) ∧ W.cell? ⟨pb, 3, none⟩ = some (.string (B pn)) ∧ W.cell? ⟨pb, 4, none⟩ = some (.string (B pw)) ∧ W.cell? ⟨pb, 5, none⟩ = some (.string (B pt)) ∧ W.cell? ⟨pb, 6, none⟩ = some (.string (B ptg)) ∧ W.cell? ⟨pb, 7, none⟩ = some (.int .u8 pbk) from fun W hW => ⟨by rw [cell_of_row _ _ _ _ _ _ (below_heap hW (lt_of_heap hpb) hpb)]; rfl, by rw [cell_of_row _ _ _ _ _ _ (below_heap hW (lt_of_heap hpb) hpb)]; rfl, by rw [cell_of_row _ _ _ _ _ _ (below_heap hW (lt_of_heap hpb) hpb)]; rfl, by rw [cell_of_row _ _ _ _ _ _ (below_heap hW (lt_of_heap hpb) hpb)]; rfl, by rw [cell_of_row _ _ _ _ _ _ (below_heap hW (lt_of_heap hpb) hpb)]; rfl, by rw [cell_of_row _ _ _ _ _ _ (below_heap hW (lt_of_heap hpb) hpb)]; rfl, by rw [cell_of_row _ _ _ _ _ _ (below_heap hW (lt_of_heap hpb) hpb)]; rfl, by rw [cell_of_row _ _ _ _ _ _ (below_heap hW (lt_of_heap hpb) hpb)]; rfl⟩)
  have hfl : (few1 ⟨okd, ovr, ok, on, ow, ot, otg, obk⟩ && few1 ⟨pkd, pvr, pk, pn, pw, pt, ptg, pbk⟩) = true → ot.length ≤ 100 := fun h => by
    simp only [few1, Bool.and_eq_true, decide_eq_true_eq] at h
    exact h.1.1.2
  generalize hF : (few1 ⟨okd, ovr, ok, on, ow, ot, otg, obk⟩ && few1 ⟨pkd, pvr, pk, pn, pw, pt, ptg, pbk⟩) = bf at HFEW hfl
  have hso : signOk ok = true → ok.isEmpty = false ∧ (ok.length : Int) ≤ 64 := fun h => by
    simp only [signOk, Bool.and_eq_true, decide_eq_true_eq] at h
    refine ⟨?_, by omega⟩
    rw [List.isEmpty_eq_false_iff]
    intro e
    rw [e] at h
    simp at h
  have hsp : signOk pk = true → pk.isEmpty = false ∧ (pk.length : Int) ≤ 64 := fun h => by
    simp only [signOk, Bool.and_eq_true, decide_eq_true_eq] at h
    refine ⟨?_, by omega⟩
    rw [List.isEmpty_eq_false_iff]
    intro e
    rw [e] at h
    simp at h
  generalize signOk ok = bo at *
  generalize signOk pk = bp at *
  have HSIZE := Lib.hid hbel0.size
  clear hF hob hpb
  rw [← hpbe, ← hobe]
  clear hobe hpbe
  refine Calls.below (H0.out _) fun W1 hW1 => ?_
  obtain ⟨o0, o1, o2, o3, o4, o5, o6, o7⟩ := HOC.out W1 hW1
  obtain ⟨p0, p1, p2, p3, p4, p5, p6, p7⟩ := HPC.out W1 hW1
  go_wp2_with fail
  have hb1 : Below W0.heap.size W0 (W1.alloc (.cells #[.int .u8 okd, .int .i64 ovr, .string (B ok), .string (B on), .string (B ow), .string (B ot), .string (B otg), .int .u8 obk, .int .u8 pkd, .int .i64 pvr, .string (B pk), .string (B pn), .string (B pw), .string (B pt), .string (B ptg), .int .u8 pbk] 31)) := hW1.alloc hW1.size _
  refine Calls.below (HFEW.out _ _ (heap_alloc_last W1 (.cells #[.int .u8 okd, .int .i64 ovr, .string (B ok), .string (B on), .string (B ow), .string (B ot), .string (B otg), .int .u8 obk, .int .u8 pkd, .int .i64 pvr, .string (B pk), .string (B pn), .string (B pw), .string (B pt), .string (B ptg), .int .u8 pbk] 31))) fun W2 hW2 => ?_
  have hb2 := hb1.trans (hW2.mono hb1.size)
  clear o0 o1 o2 o3 o4 o5 o6 o7 p0 p1 p2 p3 p4 p5 p6 p7
  clear hW1 hb1 hW2
  obtain ⟨o0, o1, o2, o3, o4, o5, o6, o7⟩ := HOC.out W2 hb2
  obtain ⟨p0, p1, p2, p3, p4, p5, p6, p7⟩ := HPC.out W2 hb2
  cases bf with
  | false =>
    go_wp2_with fail
    refine Calls.below (H0.out _) fun W3 hW3 => ?_
    have hb3 := hb2.trans (hW3.mono hb2.size)
    clear o0 o1 o2 o3 o4 o5 o6 o7 p0 p1 p2 p3 p4 p5 p6 p7
    go_wp2
    go_ret
    exact ⟨rfl, hbel0.trans (hb3.mono HSIZE.out)⟩
  | true =>
    have hot := hfl rfl
    go_wp2_with fail
    refine Calls.below (HSO.out _) fun W3 hW3 => ?_
    have hb3 := hb2.trans (hW3.mono hb2.size)
    clear o0 o1 o2 o3 o4 o5 o6 o7 p0 p1 p2 p3 p4 p5 p6 p7
    clear hW3 hb2
    obtain ⟨o0, o1, o2, o3, o4, o5, o6, o7⟩ := HOC.out W3 hb3
    obtain ⟨p0, p1, p2, p3, p4, p5, p6, p7⟩ := HPC.out W3 hb3
    cases bo with
    | false =>
      go_wp2_with fail
      refine Calls.below (H0.out _) fun W4 hW4 => ?_
      have hb4 := hb3.trans (hW4.mono hb3.size)
      clear o0 o1 o2 o3 o4 o5 o6 o7 p0 p1 p2 p3 p4 p5 p6 p7
      go_wp2
      go_ret
      exact ⟨rfl, hbel0.trans (hb4.mono HSIZE.out)⟩
    | true =>
      obtain ⟨hok1, hok2⟩ := hso rfl
      go_wp2_with fail
      refine Calls.below (HSP.out _) fun W4 hW4 => ?_
      have hb4 := hb3.trans (hW4.mono hb3.size)
      clear o0 o1 o2 o3 o4 o5 o6 o7 p0 p1 p2 p3 p4 p5 p6 p7
      clear hW4 hb3
      cases bp with
      | false =>
        go_wp2_with fail
        refine Calls.below (H0.out _) fun W5 hW5 => ?_
        have hb5 := hb4.trans (hW5.mono hb4.size)
        go_wp2
        go_ret
        exact ⟨rfl, hbel0.trans (hb5.mono HSIZE.out)⟩
      | true =>
        obtain ⟨hpk1, hpk2⟩ := hsp rfl
        clear hfl hso hsp HSO HSP HFEW
        go_wp2_with fail
        refine (ideal_any _).mono ?_
        rintro _ W5 ⟨rfl, hW5⟩
        have hib0 : W5.heap[W4.heap.size]? = some (.cells #[.slice none 0 0] 59 (0, 0)) := by rw [← hW5]; exact heap_under (heap_alloc_last W4 _)
        have heb0 : W5.cell? ⟨W4.heap.size + 1, 0, none⟩ = some (.iface 56 (.pointer (some ⟨W4.heap.size, 0, none⟩))) := by
          rw [← hW5, cell_of_row _ _ 0 _ _ _ (heap_at (by simp))]
          rfl
        have hsz5 : W5.heap.size = W4.heap.size + 2 := by rw [← hW5]; simp
        have hb5 : Below W0.heap.size W0 W5 := by rw [← hW5]; exact (hb4.alloc hb4.size _).alloc (by simp; have := hb4.size; omega) _
        have hwi := hb4.size
        clear hW5 hb4
        generalize hibe : W4.heap.size = ib at *
        obtain ⟨eb, hebe⟩ : ∃ eb, eb = ib + 1 := ⟨_, rfl⟩
        rw [← hebe] at heb0 ⊢
        obtain ⟨base, hbase⟩ : ∃ base, base = W5.heap.size := ⟨_, rfl⟩
        have hT0 : EngX.TabAt W5 base ib (.slice none 0 0) 0 [] := ⟨hib0, World.ownsRow_nil _ _ _ _⟩
        have hbi : ib < eb := by omega
        have hbe : eb < base := by omega
        have hbw5 : base ≤ W5.heap.size := by omega
        clear hib0 hsz5 hibe hebe hbase
        obtain ⟨o0, o1, o2, o3, o4, o5, o6, o7⟩ := HOC.out W5 hb5
        have HS := Lib.hid (EngX.Sign_any eb base ib 0 32 (.slice none 0 0) [] 5 ok ot W5 heb0 hT0 (by decide) (by omega) (by omega) hbw5 (by omega) (by decide) hok1 hok2)
        go_wp2_with fail
        refine HS.out.mono ?_
        rintro _ W6 ⟨rfl, v1, hT1, hk1, hor1⟩
        have hb6 : Below W0.heap.size W0 W6 := hk1.below hb5 hb5.size hwi (fun k hk => by simp [Value.ownBlock] at hk)
        have heb6 := engine_keptX heb0 hk1 (by omega) (fun e => by simp [Value.ownBlock] at e)
        have hbw6 : base ≤ W6.heap.size := Nat.le_trans hbw5 hk1.size
        generalize freshB (0 + 1) 32 = tag at *
        have hE1 : TabE W6 base ib v1 [⟨5, ok, [], [], ot, [], tag⟩] := hT1
        clear o0 o1 o2 o3 o4 o5 o6 o7
        clear HS hT1 hk1 hor1 hT0 heb0 hb5 hbw5
        obtain ⟨o0, o1, o2, o3, o4, o5, o6, o7⟩ := HOC.out W6 hb6
        obtain ⟨p0, p1, p2, p3, p4, p5, p6, p7⟩ := HPC.out W6 hb6
        dsimp only
        have hH := EngX.Holds_any eb base ib v1 _ 5 pk pt tag W6 heb6 hE1 (by simp) (by simp) (by decide) hpk1 hpk2
        obtain ⟨c1, hc1⟩ : ∃ c, (ok == pk) = c := ⟨_, rfl⟩
        obtain ⟨c2, hc2⟩ : ∃ c, (ot == pt) = c := ⟨_, rfl⟩
        have hval : ([⟨5, ok, [], [], ot, [], tag⟩] : List Ent).any (matchH 5 pk pt tag) = (c1 && c2) := by
          rw [← hc1, ← hc2]
          by_cases e1 : ok = pk <;> by_cases e2 : ot = pt <;> simp [matchH, e1, e2]
        rw [hval] at hH
        replace hH : ∀ z : Int, (if (c1 && c2) = true then (0 : Int) else 7) = z → _ := fun z hz => by rw [hz] at hH; exact hH
        clear hval
        cases c1 with
        | false =>
          have HH := Lib.hid (hH 7 rfl)
          clear hH
          go_wp2_with fail
          refine HH.out.mono ?_
          rintro _ W7 ⟨rfl, hb67⟩
          have hb7 := hb6.trans (hb67.mono hb6.size)
          have hE7 : TabE W7 base ib v1 _ := EngX.TabAt.below hE1 hb67
          have heb7 : W7.cell? ⟨eb, 0, none⟩ = _ := (hb67.cell (p := ⟨eb, 0, none⟩) (World.block_lt_of_cell? W6 ⟨eb, 0, none⟩ heb6)).trans heb6
          have hbw7 : base ≤ W7.heap.size := Nat.le_trans hbw6 hb67.size
          clear o0 o1 o2 o3 o4 o5 o6 o7 p0 p1 p2 p3 p4 p5 p6 p7
          clear HH hb67 hb6 hE1 heb6 hbw6
          obtain ⟨o0, o1, o2, o3, o4, o5, o6, o7⟩ := HOC.out W7 hb7
          obtain ⟨p0, p1, p2, p3, p4, p5, p6, p7⟩ := HPC.out W7 hb7
          have hH2 := EngX.Holds_any eb base ib v1 _ 6 ok ot tag W7 heb7 hE7 (by simp) (by simp) (by decide) hok1 hok2
          rw [show (if ([⟨5, ok, [], [], ot, [], tag⟩] : List Ent).any (matchH 6 ok ot tag) then (0 : Int) else 7) = 7 by simp [matchH]] at hH2
          have HH2 := Lib.hid hH2
          clear hH2
          go_wp2_with fail
          refine HH2.out.mono ?_
          rintro _ W8 ⟨rfl, hb78⟩
          have hb8 := hb7.trans (hb78.mono hb7.size)
          have hE8 : TabE W8 base ib v1 _ := EngX.TabAt.below hE7 hb78
          have heb8 : W8.cell? ⟨eb, 0, none⟩ = _ := (hb78.cell (p := ⟨eb, 0, none⟩) (World.block_lt_of_cell? W7 ⟨eb, 0, none⟩ heb7)).trans heb7
          have hbw8 : base ≤ W8.heap.size := Nat.le_trans hbw7 hb78.size
          clear o0 o1 o2 o3 o4 o5 o6 o7 p0 p1 p2 p3 p4 p5 p6 p7
          clear HH2 hb78 hb7 hE7 heb7 hbw7
          obtain ⟨o0, o1, o2, o3, o4, o5, o6, o7⟩ := HOC.out W8 hb8
          obtain ⟨p0, p1, p2, p3, p4, p5, p6, p7⟩ := HPC.out W8 hb8
          rcases sealOk_cases ok on with ⟨hr, q1, q2, q3⟩ | hr
          · have HSL := Lib.hid (EngX.Seal_any eb base ib 1 16 16 v1 _ 1 ok on ow ot W8 heb8 hE8 (by decide) (by omega) (by omega) (by omega) hbw8 (by omega) (by decide) (by omega) (by omega) q2 q3)
            have hlv := EngX.TabAt.lt hE8
            clear hE8 hr
            go_wp2_with fail
            refine HSL.out.mono ?_
            rintro _ W9 ⟨rfl, v2, hT2, hk2, hor2⟩
            have hb9 : Below W0.heap.size W0 W9 := hk2.below hb8 hb8.size (by omega) (fun k hk => by have := (hlv _ hk).1; omega)
            have heb9 := engine_keptX heb8 hk2 (by omega) (fun e => by have := (hlv _ e).1; omega)
            generalize freshB (1 + 1) 16 = tag2 at *
            generalize freshB (1 + 1) ot.length = made at *
            have hE2 : TabE W9 base ib v2 [⟨5, ok, [], [], ot, [], tag⟩, ⟨1, ok, on, ow, ot, made, tag2⟩] := hT2
            clear o0 o1 o2 o3 o4 o5 o6 o7 p0 p1 p2 p3 p4 p5 p6 p7
            clear HSL hT2 hk2 hor2 hlv hb8 heb8 hbw8
            obtain ⟨o0, o1, o2, o3, o4, o5, o6, o7⟩ := HOC.out W9 hb9
            obtain ⟨p0, p1, p2, p3, p4, p5, p6, p7⟩ := HPC.out W9 hb9
            dsimp only
            have HQ := Lib.hid fun W => rSeals_any pk pn W
            go_wp2_with fail
            refine (HQ.out _).mono ?_
            rintro _ _ ⟨rfl, rfl⟩
            rcases sealOk_cases pk pn with ⟨hq0, q4, q5, q6⟩ | hq0
            · rw [hq0]
              have hO := Open_anyV eb base ib 16 v2 _ 1 pk pn pw made tag2 W9 heb9 hE2 (by simp) (by simp) (by decide) (by omega) (by omega) q5 q6
              obtain ⟨d2, hd2⟩ : ∃ c, (on == pn) = c := ⟨_, rfl⟩
              obtain ⟨d3, hd3⟩ : ∃ c, (ow == pw) = c := ⟨_, rfl⟩
              have hfind : ([⟨5, ok, [], [], ot, [], tag⟩, ⟨1, ok, on, ow, ot, made, tag2⟩] : List Ent).find? (matchO 1 pk pn pw made tag2) = if (false && d2 && d3) = true then some ⟨1, ok, on, ow, ot, made, tag2⟩ else none := by
                have e1 : ¬ ok = pk := by simpa using hc1
                rw [← hd2, ← hd3]
                by_cases e2 : on = pn <;> by_cases e3 : ow = pw <;> simp [matchO, List.find?, e1, e2, e3]
              rw [hfind] at hO
              replace hO : ∀ z : Value, openV (if (false && d2 && d3) = true then some (⟨1, ok, on, ow, ot, made, tag2⟩ : Ent) else none) = z → _ := fun z hz => by rw [hz] at hO; exact hO
              clear hfind hE2 heb9 hq0
              have HO := Lib.hid (hO (.tuple #[.string (B []), .int .i64 7]) rfl)
              clear hO
              go_wp2_with fail
              refine HO.out.mono ?_
              rintro _ W11 ⟨rfl, hb911⟩
              have hb11 := hb9.trans (hb911.mono hb9.size)
              clear o0 o1 o2 o3 o4 o5 o6 o7 p0 p1 p2 p3 p4 p5 p6 p7
              clear hb911 hb9 HO
              obtain ⟨o0, o1, o2, o3, o4, o5, o6, o7⟩ := HOC.out W11 hb11
              obtain ⟨p0, p1, p2, p3, p4, p5, p6, p7⟩ := HPC.out W11 hb11
              go_wp2
              go_ret
              exact ⟨by simp, hbel0.trans (hb11.mono HSIZE.out)⟩
            · have hq1 : sealOk pk pn = false := by rcases hq0 with ⟨h, _⟩ | ⟨h, _⟩ | ⟨h, _⟩ <;> exact h
              rw [hq1]
              clear hq0 hq1
              clear o0 o1 o2 o3 o4 o5 o6 o7 p0 p1 p2 p3 p4 p5 p6 p7
              go_wp2
              go_ret
              exact ⟨rfl, hbel0.trans (hb9.mono HSIZE.out)⟩
          · have hr0 : sealOk ok on = false := by rcases hr with ⟨h, _⟩ | ⟨h, _⟩ | ⟨h, _⟩ <;> exact h
            have HSL := Lib.hid (Seal_no eb ok on ow ot W8 hr0)
            clear hr hr0
            go_wp2_with fail
            refine HSL.out.mono ?_
            rintro _ _ ⟨rfl, rfl⟩
            dsimp only
            clear o0 o1 o2 o3 o4 o5 o6 o7 p0 p1 p2 p3 p4 p5 p6 p7
            go_wp2
            go_ret
            exact ⟨rfl, hbel0.trans (hb8.mono HSIZE.out)⟩
        | true =>
          cases c2 with
          | false =>
            have HH := Lib.hid (hH 7 rfl)
            clear hH
            go_wp2_with fail
            refine HH.out.mono ?_
            rintro _ W7 ⟨rfl, hb67⟩
            have hb7 := hb6.trans (hb67.mono hb6.size)
            have hE7 : TabE W7 base ib v1 _ := EngX.TabAt.below hE1 hb67
            have heb7 : W7.cell? ⟨eb, 0, none⟩ = _ := (hb67.cell (p := ⟨eb, 0, none⟩) (World.block_lt_of_cell? W6 ⟨eb, 0, none⟩ heb6)).trans heb6
            have hbw7 : base ≤ W7.heap.size := Nat.le_trans hbw6 hb67.size
            clear o0 o1 o2 o3 o4 o5 o6 o7 p0 p1 p2 p3 p4 p5 p6 p7
            clear HH hb67 hb6 hE1 heb6 hbw6
            obtain ⟨o0, o1, o2, o3, o4, o5, o6, o7⟩ := HOC.out W7 hb7
            obtain ⟨p0, p1, p2, p3, p4, p5, p6, p7⟩ := HPC.out W7 hb7
            have hH2 := EngX.Holds_any eb base ib v1 _ 6 ok ot tag W7 heb7 hE7 (by simp) (by simp) (by decide) hok1 hok2
            rw [show (if ([⟨5, ok, [], [], ot, [], tag⟩] : List Ent).any (matchH 6 ok ot tag) then (0 : Int) else 7) = 7 by simp [matchH]] at hH2
            have HH2 := Lib.hid hH2
            clear hH2
            go_wp2_with fail
            refine HH2.out.mono ?_
            rintro _ W8 ⟨rfl, hb78⟩
            have hb8 := hb7.trans (hb78.mono hb7.size)
            have hE8 : TabE W8 base ib v1 _ := EngX.TabAt.below hE7 hb78
            have heb8 : W8.cell? ⟨eb, 0, none⟩ = _ := (hb78.cell (p := ⟨eb, 0, none⟩) (World.block_lt_of_cell? W7 ⟨eb, 0, none⟩ heb7)).trans heb7
            have hbw8 : base ≤ W8.heap.size := Nat.le_trans hbw7 hb78.size
            clear o0 o1 o2 o3 o4 o5 o6 o7 p0 p1 p2 p3 p4 p5 p6 p7
            clear HH2 hb78 hb7 hE7 heb7 hbw7
            obtain ⟨o0, o1, o2, o3, o4, o5, o6, o7⟩ := HOC.out W8 hb8
            obtain ⟨p0, p1, p2, p3, p4, p5, p6, p7⟩ := HPC.out W8 hb8
            rcases sealOk_cases ok on with ⟨hr, q1, q2, q3⟩ | hr
            · have HSL := Lib.hid (EngX.Seal_any eb base ib 1 16 16 v1 _ 1 ok on ow ot W8 heb8 hE8 (by decide) (by omega) (by omega) (by omega) hbw8 (by omega) (by decide) (by omega) (by omega) q2 q3)
              have hlv := EngX.TabAt.lt hE8
              clear hE8 hr
              go_wp2_with fail
              refine HSL.out.mono ?_
              rintro _ W9 ⟨rfl, v2, hT2, hk2, hor2⟩
              have hb9 : Below W0.heap.size W0 W9 := hk2.below hb8 hb8.size (by omega) (fun k hk => by have := (hlv _ hk).1; omega)
              have heb9 := engine_keptX heb8 hk2 (by omega) (fun e => by have := (hlv _ e).1; omega)
              generalize freshB (1 + 1) 16 = tag2 at *
              generalize freshB (1 + 1) ot.length = made at *
              have hE2 : TabE W9 base ib v2 [⟨5, ok, [], [], ot, [], tag⟩, ⟨1, ok, on, ow, ot, made, tag2⟩] := hT2
              clear o0 o1 o2 o3 o4 o5 o6 o7 p0 p1 p2 p3 p4 p5 p6 p7
              clear HSL hT2 hk2 hor2 hlv hb8 heb8 hbw8
              obtain ⟨o0, o1, o2, o3, o4, o5, o6, o7⟩ := HOC.out W9 hb9
              obtain ⟨p0, p1, p2, p3, p4, p5, p6, p7⟩ := HPC.out W9 hb9
              dsimp only
              have HQ := Lib.hid fun W => rSeals_any pk pn W
              go_wp2_with fail
              refine (HQ.out _).mono ?_
              rintro _ _ ⟨rfl, rfl⟩
              rcases sealOk_cases pk pn with ⟨hq0, q4, q5, q6⟩ | hq0
              · rw [hq0]
                have hO := Open_anyV eb base ib 16 v2 _ 1 pk pn pw made tag2 W9 heb9 hE2 (by simp) (by simp) (by decide) (by omega) (by omega) q5 q6
                obtain ⟨d2, hd2⟩ : ∃ c, (on == pn) = c := ⟨_, rfl⟩
                obtain ⟨d3, hd3⟩ : ∃ c, (ow == pw) = c := ⟨_, rfl⟩
                have hfind : ([⟨5, ok, [], [], ot, [], tag⟩, ⟨1, ok, on, ow, ot, made, tag2⟩] : List Ent).find? (matchO 1 pk pn pw made tag2) = if (true && d2 && d3) = true then some ⟨1, ok, on, ow, ot, made, tag2⟩ else none := by
                  have e1 : ok = pk := by simpa using hc1
                  rw [← hd2, ← hd3]
                  by_cases e2 : on = pn <;> by_cases e3 : ow = pw <;> simp [matchO, List.find?, e1, e2, e3]
                rw [hfind] at hO
                replace hO : ∀ z : Value, openV (if (true && d2 && d3) = true then some (⟨1, ok, on, ow, ot, made, tag2⟩ : Ent) else none) = z → _ := fun z hz => by rw [hz] at hO; exact hO
                clear hfind hE2 heb9 hq0
                cases d2 with
                | false =>
                  have HO := Lib.hid (hO (.tuple #[.string (B []), .int .i64 7]) rfl)
                  clear hO
                  go_wp2_with fail
                  refine HO.out.mono ?_
                  rintro _ W11 ⟨rfl, hb911⟩
                  have hb11 := hb9.trans (hb911.mono hb9.size)
                  clear o0 o1 o2 o3 o4 o5 o6 o7 p0 p1 p2 p3 p4 p5 p6 p7
                  clear hb911 hb9 HO
                  obtain ⟨o0, o1, o2, o3, o4, o5, o6, o7⟩ := HOC.out W11 hb11
                  obtain ⟨p0, p1, p2, p3, p4, p5, p6, p7⟩ := HPC.out W11 hb11
                  go_wp2
                  go_ret
                  exact ⟨by simp, hbel0.trans (hb11.mono HSIZE.out)⟩
                | true =>
                  cases d3 with
                  | false =>
                    have HO := Lib.hid (hO (.tuple #[.string (B []), .int .i64 7]) rfl)
                    clear hO
                    go_wp2_with fail
                    refine HO.out.mono ?_
                    rintro _ W11 ⟨rfl, hb911⟩
                    have hb11 := hb9.trans (hb911.mono hb9.size)
                    clear o0 o1 o2 o3 o4 o5 o6 o7 p0 p1 p2 p3 p4 p5 p6 p7
                    clear hb911 hb9 HO
                    obtain ⟨o0, o1, o2, o3, o4, o5, o6, o7⟩ := HOC.out W11 hb11
                    obtain ⟨p0, p1, p2, p3, p4, p5, p6, p7⟩ := HPC.out W11 hb11
                    go_wp2
                    go_ret
                    exact ⟨by simp, hbel0.trans (hb11.mono HSIZE.out)⟩
                  | true =>
                    have HO := Lib.hid (hO (.tuple #[.string (B ot), .int .i64 0]) rfl)
                    clear hO
                    go_wp2_with fail
                    refine HO.out.mono ?_
                    rintro _ W11 ⟨rfl, hb911⟩
                    have hb11 := hb9.trans (hb911.mono hb9.size)
                    clear o0 o1 o2 o3 o4 o5 o6 o7 p0 p1 p2 p3 p4 p5 p6 p7
                    clear hb911 hb9 HO
                    obtain ⟨o0, o1, o2, o3, o4, o5, o6, o7⟩ := HOC.out W11 hb11
                    obtain ⟨p0, p1, p2, p3, p4, p5, p6, p7⟩ := HPC.out W11 hb11
                    go_wp2
                    go_ret
                    exact ⟨by simp, hbel0.trans (hb11.mono HSIZE.out)⟩
              · have hq1 : sealOk pk pn = false := by rcases hq0 with ⟨h, _⟩ | ⟨h, _⟩ | ⟨h, _⟩ <;> exact h
                rw [hq1]
                clear hq0 hq1
                clear o0 o1 o2 o3 o4 o5 o6 o7 p0 p1 p2 p3 p4 p5 p6 p7
                go_wp2
                go_ret
                exact ⟨rfl, hbel0.trans (hb9.mono HSIZE.out)⟩
            · have hr0 : sealOk ok on = false := by rcases hr with ⟨h, _⟩ | ⟨h, _⟩ | ⟨h, _⟩ <;> exact h
              have HSL := Lib.hid (Seal_no eb ok on ow ot W8 hr0)
              clear hr hr0
              go_wp2_with fail
              refine HSL.out.mono ?_
              rintro _ _ ⟨rfl, rfl⟩
              dsimp only
              clear o0 o1 o2 o3 o4 o5 o6 o7 p0 p1 p2 p3 p4 p5 p6 p7
              go_wp2
              go_ret
              exact ⟨rfl, hbel0.trans (hb8.mono HSIZE.out)⟩
          | true =>
            have HH := Lib.hid (hH 0 rfl)
            clear hH
            go_wp2_with fail
            refine HH.out.mono ?_
            rintro _ W7 ⟨rfl, hb67⟩
            have hb7 := hb6.trans (hb67.mono hb6.size)
            have hE7 : TabE W7 base ib v1 _ := EngX.TabAt.below hE1 hb67
            have heb7 : W7.cell? ⟨eb, 0, none⟩ = _ := (hb67.cell (p := ⟨eb, 0, none⟩) (World.block_lt_of_cell? W6 ⟨eb, 0, none⟩ heb6)).trans heb6
            have hbw7 : base ≤ W7.heap.size := Nat.le_trans hbw6 hb67.size
            clear o0 o1 o2 o3 o4 o5 o6 o7 p0 p1 p2 p3 p4 p5 p6 p7
            clear HH hb67 hb6 hE1 heb6 hbw6
            obtain ⟨o0, o1, o2, o3, o4, o5, o6, o7⟩ := HOC.out W7 hb7
            obtain ⟨p0, p1, p2, p3, p4, p5, p6, p7⟩ := HPC.out W7 hb7
            have hH2 := EngX.Holds_any eb base ib v1 _ 6 ok ot tag W7 heb7 hE7 (by simp) (by simp) (by decide) hok1 hok2
            rw [show (if ([⟨5, ok, [], [], ot, [], tag⟩] : List Ent).any (matchH 6 ok ot tag) then (0 : Int) else 7) = 7 by simp [matchH]] at hH2
            have HH2 := Lib.hid hH2
            clear hH2
            go_wp2_with fail
            refine HH2.out.mono ?_
            rintro _ W8 ⟨rfl, hb78⟩
            have hb8 := hb7.trans (hb78.mono hb7.size)
            have hE8 : TabE W8 base ib v1 _ := EngX.TabAt.below hE7 hb78
            have heb8 : W8.cell? ⟨eb, 0, none⟩ = _ := (hb78.cell (p := ⟨eb, 0, none⟩) (World.block_lt_of_cell? W7 ⟨eb, 0, none⟩ heb7)).trans heb7
            have hbw8 : base ≤ W8.heap.size := Nat.le_trans hbw7 hb78.size
            clear o0 o1 o2 o3 o4 o5 o6 o7 p0 p1 p2 p3 p4 p5 p6 p7
            clear HH2 hb78 hb7 hE7 heb7 hbw7
            obtain ⟨o0, o1, o2, o3, o4, o5, o6, o7⟩ := HOC.out W8 hb8
            obtain ⟨p0, p1, p2, p3, p4, p5, p6, p7⟩ := HPC.out W8 hb8
            rcases sealOk_cases ok on with ⟨hr, q1, q2, q3⟩ | hr
            · have HSL := Lib.hid (EngX.Seal_any eb base ib 1 16 16 v1 _ 1 ok on ow ot W8 heb8 hE8 (by decide) (by omega) (by omega) (by omega) hbw8 (by omega) (by decide) (by omega) (by omega) q2 q3)
              have hlv := EngX.TabAt.lt hE8
              clear hE8 hr
              go_wp2_with fail
              refine HSL.out.mono ?_
              rintro _ W9 ⟨rfl, v2, hT2, hk2, hor2⟩
              have hb9 : Below W0.heap.size W0 W9 := hk2.below hb8 hb8.size (by omega) (fun k hk => by have := (hlv _ hk).1; omega)
              have heb9 := engine_keptX heb8 hk2 (by omega) (fun e => by have := (hlv _ e).1; omega)
              generalize freshB (1 + 1) 16 = tag2 at *
              generalize freshB (1 + 1) ot.length = made at *
              have hE2 : TabE W9 base ib v2 [⟨5, ok, [], [], ot, [], tag⟩, ⟨1, ok, on, ow, ot, made, tag2⟩] := hT2
              clear o0 o1 o2 o3 o4 o5 o6 o7 p0 p1 p2 p3 p4 p5 p6 p7
              clear HSL hT2 hk2 hor2 hlv hb8 heb8 hbw8
              obtain ⟨o0, o1, o2, o3, o4, o5, o6, o7⟩ := HOC.out W9 hb9
              obtain ⟨p0, p1, p2, p3, p4, p5, p6, p7⟩ := HPC.out W9 hb9
              dsimp only
              have HQ := Lib.hid fun W => rSeals_any pk pn W
              go_wp2_with fail
              refine (HQ.out _).mono ?_
              rintro _ _ ⟨rfl, rfl⟩
              rcases sealOk_cases pk pn with ⟨hq0, q4, q5, q6⟩ | hq0
              · rw [hq0]
                have hO := Open_anyV eb base ib 16 v2 _ 1 pk pn pw made tag2 W9 heb9 hE2 (by simp) (by simp) (by decide) (by omega) (by omega) q5 q6
                obtain ⟨d2, hd2⟩ : ∃ c, (on == pn) = c := ⟨_, rfl⟩
                obtain ⟨d3, hd3⟩ : ∃ c, (ow == pw) = c := ⟨_, rfl⟩
                have hfind : ([⟨5, ok, [], [], ot, [], tag⟩, ⟨1, ok, on, ow, ot, made, tag2⟩] : List Ent).find? (matchO 1 pk pn pw made tag2) = if (true && d2 && d3) = true then some ⟨1, ok, on, ow, ot, made, tag2⟩ else none := by
                  have e1 : ok = pk := by simpa using hc1
                  rw [← hd2, ← hd3]
                  by_cases e2 : on = pn <;> by_cases e3 : ow = pw <;> simp [matchO, List.find?, e1, e2, e3]
                rw [hfind] at hO
                replace hO : ∀ z : Value, openV (if (true && d2 && d3) = true then some (⟨1, ok, on, ow, ot, made, tag2⟩ : Ent) else none) = z → _ := fun z hz => by rw [hz] at hO; exact hO
                clear hfind hE2 heb9 hq0
                cases d2 with
                | false =>
                  have HO := Lib.hid (hO (.tuple #[.string (B []), .int .i64 7]) rfl)
                  clear hO
                  go_wp2_with fail
                  refine HO.out.mono ?_
                  rintro _ W11 ⟨rfl, hb911⟩
                  have hb11 := hb9.trans (hb911.mono hb9.size)
                  clear o0 o1 o2 o3 o4 o5 o6 o7 p0 p1 p2 p3 p4 p5 p6 p7
                  clear hb911 hb9 HO
                  obtain ⟨o0, o1, o2, o3, o4, o5, o6, o7⟩ := HOC.out W11 hb11
                  obtain ⟨p0, p1, p2, p3, p4, p5, p6, p7⟩ := HPC.out W11 hb11
                  go_wp2
                  go_ret
                  exact ⟨by simp, hbel0.trans (hb11.mono HSIZE.out)⟩
                | true =>
                  cases d3 with
                  | false =>
                    have HO := Lib.hid (hO (.tuple #[.string (B []), .int .i64 7]) rfl)
                    clear hO
                    go_wp2_with fail
                    refine HO.out.mono ?_
                    rintro _ W11 ⟨rfl, hb911⟩
                    have hb11 := hb9.trans (hb911.mono hb9.size)
                    clear o0 o1 o2 o3 o4 o5 o6 o7 p0 p1 p2 p3 p4 p5 p6 p7
                    clear hb911 hb9 HO
                    obtain ⟨o0, o1, o2, o3, o4, o5, o6, o7⟩ := HOC.out W11 hb11
                    obtain ⟨p0, p1, p2, p3, p4, p5, p6, p7⟩ := HPC.out W11 hb11
                    go_wp2
                    go_ret
                    exact ⟨by simp, hbel0.trans (hb11.mono HSIZE.out)⟩
                  | true =>
                    have HO := Lib.hid (hO (.tuple #[.string (B ot), .int .i64 0]) rfl)
                    clear hO
                    go_wp2_with fail
                    refine HO.out.mono ?_
                    rintro _ W11 ⟨rfl, hb911⟩
                    have hb11 := hb9.trans (hb911.mono hb9.size)
                    clear o0 o1 o2 o3 o4 o5 o6 o7 p0 p1 p2 p3 p4 p5 p6 p7
                    clear hb911 hb9 HO
                    obtain ⟨o0, o1, o2, o3, o4, o5, o6, o7⟩ := HOC.out W11 hb11
                    obtain ⟨p0, p1, p2, p3, p4, p5, p6, p7⟩ := HPC.out W11 hb11
                    go_wp2
                    go_ret
                    exact ⟨by simp, hbel0.trans (hb11.mono HSIZE.out)⟩
              · have hq1 : sealOk pk pn = false := by rcases hq0 with ⟨h, _⟩ | ⟨h, _⟩ | ⟨h, _⟩ <;> exact h
                rw [hq1]
                clear hq0 hq1
                clear o0 o1 o2 o3 o4 o5 o6 o7 p0 p1 p2 p3 p4 p5 p6 p7
                go_wp2
                go_ret
                exact ⟨rfl, hbel0.trans (hb9.mono HSIZE.out)⟩
            · have hr0 : sealOk ok on = false := by rcases hr with ⟨h, _⟩ | ⟨h, _⟩ | ⟨h, _⟩ <;> exact h
              have HSL := Lib.hid (Seal_no eb ok on ow ot W8 hr0)
              clear hr hr0
              go_wp2_with fail
              refine HSL.out.mono ?_
              rintro _ _ ⟨rfl, rfl⟩
              dsimp only
              clear o0 o1 o2 o3 o4 o5 o6 o7 p0 p1 p2 p3 p4 p5 p6 p7
              go_wp2
              go_ret
              exact ⟨rfl, hbel0.trans (hb8.mono HSIZE.out)⟩
set_option maxRecDepth 100000 in
theorem walk (W : World) (base : Nat) (args : Array Value) {H : Type} {enc : TypeId × Value → H} (ds : List (DataW H)) (ps : List MemPlace)
    (hval : ∀ (j : Nat) t v, Tryz.f5.params[j]? = some t → args[j]? = some v → Value.okWide Tryz.prog W .any base t v)
    (hA : DataW.TrodAll enc Tryz.prog W 0 (fun _ => true) true Tryz.f5.params.toList args.toList ds ps)
    (hlt : ∀ p ∈ ps, p.block < W.heap.size) :
    Calls Tryz.prog 5 args W fun e W' => e = .returned (.bool true) ∧ Below W.heap.size W W' := by
  rw [Tryz.params5] at hA hval
  obtain ⟨v0, v1, d0, d1, p, q, rfl, rfl, rfl, h0, h1⟩ := trodAll_two hA
  obtain ⟨csx, rfl, hallx⟩ := open_flat [5, 3, 9, 9, 9, 9, 9, 5] (hval 0 31 v0 rfl rfl) h0 (fun p hp => hlt p (by simp [hp])) (by kernel_rfl) (by kernel_rfl) (by kernel_rfl)
  obtain ⟨x1, xr1, rfl, xl1, x2, xr2, rfl, xl2, x3, xr3, rfl, xl3, x4, xr4, rfl, xl4, x5, xr5, rfl, xl5, x6, xr6, rfl, xl6, x7, xr7, rfl, xl7, x8, xr8, rfl, xl8, rfl⟩ := hallx
  obtain ⟨xa, rfl, -⟩ := xl1.int Tryz.underlying5
  obtain ⟨xb, rfl, -⟩ := xl2.int Tryz.underlying3
  obtain ⟨xc, rfl, -⟩ := xl3.str Tryz.underlying9
  obtain ⟨xd, rfl, -⟩ := xl4.str Tryz.underlying9
  obtain ⟨xe, rfl, -⟩ := xl5.str Tryz.underlying9
  obtain ⟨xf, rfl, -⟩ := xl6.str Tryz.underlying9
  obtain ⟨xg, rfl, -⟩ := xl7.str Tryz.underlying9
  obtain ⟨xh, rfl, -⟩ := xl8.int Tryz.underlying5
  obtain ⟨csy, rfl, hally⟩ := open_flat [5, 3, 9, 9, 9, 9, 9, 5] (hval 1 31 v1 rfl rfl) h1 (fun p hp => hlt p (by simp [hp])) (by kernel_rfl) (by kernel_rfl) (by kernel_rfl)
  obtain ⟨y1, yr1, rfl, yl1, y2, yr2, rfl, yl2, y3, yr3, rfl, yl3, y4, yr4, rfl, yl4, y5, yr5, rfl, yl5, y6, yr6, rfl, yl6, y7, yr7, rfl, yl7, y8, yr8, rfl, yl8, rfl⟩ := hally
  obtain ⟨ya, rfl, -⟩ := yl1.int Tryz.underlying5
  obtain ⟨yb, rfl, -⟩ := yl2.int Tryz.underlying3
  obtain ⟨yc, rfl, -⟩ := yl3.str Tryz.underlying9
  obtain ⟨yd, rfl, -⟩ := yl4.str Tryz.underlying9
  obtain ⟨ye, rfl, -⟩ := yl5.str Tryz.underlying9
  obtain ⟨yf, rfl, -⟩ := yl6.str Tryz.underlying9
  obtain ⟨yg, rfl, -⟩ := yl7.str Tryz.underlying9
  obtain ⟨yh, rfl, -⟩ := yl8.int Tryz.underlying5
  exact only_law ⟨xa, xb, xc, xd, xe, xf, xg, xh⟩ ⟨ya, yb, yc, yd, ye, yf, yg, yh⟩ W
set_option maxRecDepth 100000 in
theorem lifted (os : Os) (started : os.Started) (H : Type) (enc : TypeId × Value → H) :
    ReturnsInHanded {} Tryz.checked os 5 .any (Rows.engineOnlySpec.pre6 enc Tryz.prog Tryz.f5 Rows.engineOnlyRow.domain false) (Rows.engineOnlySpec.post enc Tryz.prog Tryz.f5 false true false false) :=
  law_lift (C := Tryz.checked) (tb := 4) (by kernel_rfl) started (by kernel_rfl) Tryz.func5
    (ChangeSpec.witness6 (enc := enc) (C := Tryz.checked) false ⟨#[], #[.agg #[.int .u8 0, .int .i64 0, .string ⟨#[]⟩, .string ⟨#[]⟩, .string ⟨#[]⟩, .string ⟨#[]⟩, .string ⟨#[]⟩, .int .u8 0], .agg #[.int .u8 0, .int .i64 0, .string ⟨#[]⟩, .string ⟨#[]⟩, .string ⟨#[]⟩, .string ⟨#[]⟩, .string ⟨#[]⟩, .int .u8 0]], []⟩ 8 (by kernel_rfl) (by kernel_rfl) (by kernel_rfl) (by kernel_rfl))
    (by kernel_rfl) (by kernel_rfl) rfl (by kernel_rfl) Tryz.underlying4 (fun ds h => by match ds, h with | [_, _], _ => exact ⟨rfl, rfl, rfl⟩)
    (fun W base args ds ps hval hA hlt => walk W base args ds ps hval hA hlt)
theorem over : Rows.engineOnlyRow.holds Tryz.pinned (OpenSpec.ofChange Rows.engineOnlySpec) :=
  OpenClaim.holds_of_wide 5 Tryz.f5 rfl rfl rfl rfl rfl rfl rfl ⟨rfl, rfl, rfl, rfl, rfl⟩ rfl rfl rfl rfl rfl (by kernel_rfl) Tryz.func5 (by kernel_rfl)
    (of_decide_eq_true (by kernel_rfl)) (by unfold Func.isWrapper; rw [if_neg (of_decide_eq_false (by kernel_rfl))]; exact ⟨rfl, rfl⟩)
    (fun os started H enc _ => lifted os started H enc)
theorem proved : Rows.EngineOnlySaid := over
#print axioms proved
end Go.Proofs.YtlbpodddokhmaaaGreat.EngineOnly
