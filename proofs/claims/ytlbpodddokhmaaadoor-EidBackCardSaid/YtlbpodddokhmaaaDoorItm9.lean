/-
  Names as items: the walks of the reference's Item and of the program's Num, List, Item.
  Conditions: none.
-/
import Derived.Test.YtlbpodddokhmaaaDoorItm8
import Derived.Test.YtlbpodddokhmaaaDoorRef10c
import Derived.Test.YtlbpodddokhmaaaDoorBlank
namespace Go.Proofs.YtlbpodddokhmaaaDoor.Itm
open Go.ChangeShapes Go.WideShapes Go.ChangeAt Go.RowKit Go.Deep Go.Proofs.YtlbpodddokhmaaaDoor.Eid
def numT (n : Nat) : Tr := .mk 0 n [] [] false
def arrT (l : List Tr) : Tr := .mk 4 0 [] l false
def twoT (s : Nat) (l : List UInt8) (n v : Nat) : Tr := if s = 2 then arrT [numT n, numT v] else if l = [110, 111, 110, 101] then numT 0 else .mk 3 0 l [] false
def nameT (s : Nat) (l : List UInt8) (n v : Nat) : Tr := arrT [numT s, twoT s l n v]
theorem tat_num (w : World) (n : Nat) (hn : n < W64) : TAt w (numT n) [.int .i64 0, .int .u64 n, .string (B []), .slice none 0 0, .bool false] :=
  .mk 0 n [] [] false none 0 (fun _ => []) hn (by simp [R47]) (by simp [R47]) (fun i hi => by simp at hi) (fun i t hi => by simp at hi)
theorem tat_text (w : World) (l : List UInt8) (hl : l.length ≤ R47) : TAt w (.mk 3 0 l [] false) [.int .i64 3, .int .u64 (0 : Nat), .string (B l), .slice none 0 0, .bool false] :=
  .mk 3 0 l [] false none 0 (fun _ => []) (by decide) hl (by simp [R47]) (fun i hi => by simp at hi) (fun i t hi => by simp at hi)
theorem tat_two {w : World} {x y : Tr} {cx cy : List Value} {g : Nat} (hx : TAt w x cx) (hy : TAt w y cy) (hg : g < w.heap.size) (hc : w.rangeAt g 0 (cx ++ cy)) (h5 : cx.length = 5) :
    TAt w (arrT [x, y]) [.int .i64 4, .int .u64 (0 : Nat), .string (B []), .slice (some ⟨g, 0, none⟩) 2 2, .bool false] := by
  refine .mk 4 0 [] [x, y] false (some ⟨g, 0, none⟩) 2 (fun i => if i = 0 then cx else cy) (by decide) (by simp [R47]) (by simp [R47]) (fun i hi => ?_) (fun i t hi => ?_)
  · refine ⟨g, 0, rfl, hg, fun j v hv => ?_⟩
    simp only [List.length_cons, List.length_nil] at hi
    have : i = 0 ∨ i = 1 := by omega
    rcases this with rfl | rfl
    · simp only [if_pos] at hv
      have hj : j < cx.length := (List.getElem?_eq_some_iff.1 hv).1
      have := hc j v (by rw [List.getElem?_append_left hj]; exact hv)
      simpa using this
    · simp only [if_neg (show ¬ (1 : Nat) = 0 by decide)] at hv
      have := hc (5 + j) v (by rw [List.getElem?_append_right (by omega), h5, Nat.add_sub_cancel_left]; exact hv)
      simpa using this
  · match i, hi with
    | 0, hi => simp at hi; subst hi; exact hx
    | 1, hi => simp at hi; subst hi; exact hy
theorem tat_len {w : World} {t : Tr} {cs : List Value} (h : TAt w t cs) : cs.length = 5 := by
  obtain ⟨_, _, _, rfl, _⟩ := h.form; rfl
theorem TAt.unblank {n : Nat} {w : World} {t : Tr} {cs : List Value} (h : TAt (blank n w) t cs) : TAt w t cs := by
  induction h with
  | mk k m s l o a c C hn hs hl hat hel ih =>
    refine .mk k m s l o a c C hn hs hl (fun i hi => ?_) ih
    obtain ⟨b, f, rfl, hbl, hr⟩ := hat i hi
    exact ⟨b, f, rfl, by rw [blank_size] at hbl; exact hbl, blank_range hr⟩
/-- A result that is an item. -/
def ResI (t : Tr) (B0 : Nat) (w : World) (e : Ending) (w' : World) : Prop := ∃ cs, e = .returned (.agg cs.toArray) ∧ TAt w' t cs ∧ Below B0 w w'
set_option maxRecDepth 100000 in
theorem Num_any (n : Nat) (w : World) : Calls Tryd.prog 22 #[.int .u64 n] w fun e w' => e = .returned (.agg #[.int .i64 0, .int .u64 n, .string (B []), .slice none 0 0, .bool false]) ∧ Below w.heap.size w w' := by
  go_enter Tryd.func22, Tryd.ntmps22
  go_wp2
  exact bodyPost_ret (v := .agg #[.int .i64 0, .int .u64 n, .string ⟨#[]⟩, .slice none 0 0, .bool false]) (by simp [results, Tryd.results22, go_sem]) rfl ⟨rfl, by ((repeat' (with_reducible first | exact Below.refl _ _ | assumption | refine Below.drew ?_ | refine below_drewN ?_ _ | refine Below.setCell ?_ ?_ _ | refine Below.alloc ?_ ?_ _ | refine Below.ext ?_ ?_ _ | refine Below.trans ?_ (Below.mono ‹_› ?_))) <;> first | omega | (simp; done) | (simp; omega))⟩
set_option maxRecDepth 100000 in
theorem List_any (a : Option Addr) (n c : Nat) (w : World) : Calls Tryd.prog 21 #[.slice a n c] w fun e w' => e = .returned (.agg #[.int .i64 4, .int .u64 (0 : Nat), .string (B []), .slice a n c, .bool false]) ∧ Below w.heap.size w w' := by
  go_enter Tryd.func21, Tryd.ntmps21
  go_wp2
  exact bodyPost_ret (v := .agg #[.int .i64 4, .int .u64 0, .string ⟨#[]⟩, .slice a n c, .bool false]) (by simp [results, Tryd.results21, go_sem]) rfl ⟨rfl, by ((repeat' (with_reducible first | exact Below.refl _ _ | assumption | refine Below.drew ?_ | refine below_drewN ?_ _ | refine Below.setCell ?_ ?_ _ | refine Below.alloc ?_ ?_ _ | refine Below.ext ?_ ?_ _ | refine Below.trans ?_ (Below.mono ‹_› ?_))) <;> first | omega | (simp; done) | (simp; omega))⟩
/-- What the program's Item returns of no name. -/
def TwoI (s : Nat) (l : List UInt8) (n v : Nat) (w : World) (e : Ending) (w' : World) : Prop := ∃ cs, e = .returned (.tuple #[.agg cs.toArray, .int .i64 0]) ∧ TAt w' (nameT s l n v) cs ∧ Below w.heap.size w w'
set_option maxRecDepth 100000 in
theorem Item_no (s : Int) (l : List UInt8) (n v : Nat) (w : World) (hl : l.length ≤ maxLen) (h : rightB s l n v = false) : Calls Tryd.prog 9 #[.agg #[.int .i64 s, .string (B l), .int .u64 n, .int .u64 v]] w fun e w' => e = .returned (.tuple #[.agg #[.int .i64 0, .int .u64 0, .string (B []), .slice none 0 0, .bool false], .int .i64 1]) ∧ Below w.heap.size w w' := by
  have H := Lib.hid h
  clear h
  go_enter Tryd.func9, Tryd.ntmps9
  go_wp2_with (go_at_call 13; refine (Right_any _ _ _ _ _ hl).mono ?_; rw [H.out]; rintro e w1 ⟨rfl, hb⟩; obtain ⟨hc0, hf0⟩ := bat hb w.heap.size (by simp; omega); obtain ⟨hc1, hf1⟩ := bat hb (w.heap.size + 1) (by simp); have hz := hb.size; simp at hz)
  exact bodyPost_ret (v := .tuple #[.agg #[.int .i64 0, .int .u64 0, .string (B []), .slice none 0 0, .bool false], .int .i64 1]) (by simp [results, Tryd.results9, go_sem, hc0, hf0, hc1, hf1, hz]; rfl) rfl ⟨rfl, by ((repeat' (with_reducible first | exact Below.refl _ _ | assumption | refine Below.drew ?_ | refine below_drewN ?_ _ | refine Below.setCell ?_ ?_ _ | refine Below.alloc ?_ ?_ _ | refine Below.ext ?_ ?_ _ | refine Below.trans ?_ (Below.mono ‹_› ?_))) <;> first | omega | (simp; done) | (simp; omega))⟩
theorem runBldI2 {o : Oper} {a : Act} {w : World} (x y : Operand) {x0 x1 x2 x3 x4 y0 y1 y2 y3 y4 : Value} (ho : o.op = .buildSlice 31 2 #[(0, x), (1, y)]) (hx : a.eval x = .agg #[x0, x1, x2, x3, x4]) (hy : a.eval y = .agg #[y0, y1, y2, y3, y4]) :
    (execOp a.eval o).run Tryd.prog w = .ok (.value (.slice (some ⟨w.heap.size, 0, none⟩) 2 2)) (w.alloc (.cells #[x0, x1, x2, x3, x4, y0, y1, y2, y3, y4] 33)) := by
  unfold execOp
  simp only [ho, List.map_toArray, List.map_cons, List.map_nil, hx, hy]
  go_simp
set_option maxHeartbeats 1600000 in
set_option maxRecDepth 100000 in
theorem Item_text (l : List UInt8) (w : World) (hl : l.length ≤ maxLen) (hl2 : l.length ≤ R47) (hne : (l == [110, 111, 110, 101]) = false) (h : rightB 1 l 0 0 = true) : Calls Tryd.prog 9 #[.agg #[.int .i64 1, .string (B l), .int .u64 0, .int .u64 0]] w (TwoI 1 l 0 0 w) := by
  have H := Lib.hid h
  have HL := Lib.hid hl2
  have HT : Hid (nameT 1 l 0 0 = arrT [numT 1, .mk 3 0 l [] false]) := Lib.hid (by
    unfold nameT twoT
    rw [if_neg (by decide), if_neg (by simpa using hne)])
  clear h hl2
  go_enter Tryd.func9, Tryd.ntmps9
  go_wp2_with fail
  obtain ⟨w0, hw0⟩ : ∃ w0, (w.alloc (.cells #[.int .i64 1, .string (B l), .int .u64 0, .int .u64 0] 25)).alloc (.cells #[.int .i64 0, .int .u64 0, .string ⟨#[]⟩, .slice none 0 0, .bool false] 33) = w0 := ⟨_, rfl⟩
  have gS : w0.heap.size = w.heap.size + 1 + 1 := by rw [← hw0]; show ((w.heap.push _).push _).size = _; simp
  have gb : Below w.heap.size w w0 := by rw [← hw0]; exact ((Below.refl _ _).alloc (Nat.le_refl _) _).alloc (by show w.heap.size ≤ (w.heap.push _).size; simp) _
  have g0 : w0.heap[w.heap.size]? = some (.cells #[.int .i64 1, .string (B l), .int .u64 0, .int .u64 0] 25 (0, 0)) := by rw [← hw0]; exact heap_under (heap_alloc_last w _)
  have g9 : w0.heap[w.heap.size + 1]? = some (.cells #[.int .i64 0, .int .u64 0, .string ⟨#[]⟩, .slice none 0 0, .bool false] 33 (0, 0)) := by rw [← hw0]; exact heap_at (by show (w.heap.push _).size = _; simp)
  rw [hw0]
  clear hw0
  refine (Right_any _ _ _ _ _ (by first | exact hl | decide)).mono ?_
  rw [H.out]
  rintro e w1 ⟨rfl, hb⟩
  have hz0 : w.heap.size < w1.heap.size := by have := hb.size; omega
  have hz1 : w.heap.size + 1 < w1.heap.size := by have := hb.size; omega
  have c9 := heap_below hb (by omega) g9
  have q0 := heap_below hb (by omega) g0
  have c0 : w1.cell? ⟨w.heap.size, 0, none⟩ = some (.int .i64 1) := by rw [cell_of_row _ _ _ _ _ _ q0]; rfl
  have c1 : w1.cell? ⟨w.heap.size, 1, none⟩ = some (.string (B l)) := by rw [cell_of_row _ _ _ _ _ _ q0]; rfl
  have HB := Lib.hid (gb.trans (hb.mono (by omega)))
  clear hb gS gb g0 g9 q0
  go_wp2_with fail
  have hEr : ∀ W : World, (fun W W' => Below W.heap.size W W') W W := fun W => Below.refl _ _
  refine wp_region_rel 6 2 0 (fun W => Below w1.heap.size w1 W) [32, 33, 34, 35, 36, 37] (relAt [fun zv _ => zv = .agg #[.int .i64 0, .int .u64 (1 : Nat), .string (B []), .slice none 0 0, .bool false], fun zv _ => zv = .pointer (some ⟨w.heap.size, 1, none⟩), fun zv _ => zv = .string (B l), fun zv _ => zv = .agg #[.int .i64 3, .int .u64 (0 : Nat), .string (B l), .slice none 0 0, .bool false], fun zv W => ∃ g, zv = .slice (some ⟨g, 0, none⟩) 2 2 ∧ TAt (blank w1.heap.size W) (arrT [numT 1, .mk 3 0 l [] false]) [.int .i64 4, .int .u64 (0 : Nat), .string (B []), .slice (some ⟨g, 0, none⟩) 2 2, .bool false], fun zv W => ∃ g, zv = .agg #[.int .i64 4, .int .u64 (0 : Nat), .string (B []), .slice (some ⟨g, 0, none⟩) 2 2, .bool false] ∧ TAt (blank w1.heap.size W) (arrT [numT 1, .mk 3 0 l [] false]) [.int .i64 4, .int .u64 (0 : Nat), .string (B []), .slice (some ⟨g, 0, none⟩) 2 2, .bool false]]) (fun W W' => Below W.heap.size W W') (by kernel_rfl) rfl rfl (by kernel_rfl) (by kernel_rfl) (by kernel_rfl) (by kernel_rfl) (Mono.at ⟨fun _ _ _ _ h => h, fun _ _ _ _ h => h, fun _ _ _ _ h => h, fun _ _ _ _ h => h, fun _ _ _ hb ⟨g, h1, h2⟩ => ⟨g, h1, h2.keep (blank_below hb) (by rw [blank_size]; exact Nat.le_refl _)⟩, fun _ _ _ hb ⟨g, h1, h2⟩ => ⟨g, h1, h2.keep (blank_below hb) (by rw [blank_size]; exact Nat.le_refl _)⟩, trivial⟩) ((Below.refl _ _).drew) ⟨?_, ?_, ?_, ?_, ?_, ?_, trivial⟩ ?_
  · refine relCall 0 rfl rfl 22 fun u wq hS hd => ?_
    simp only [fillL, Act.put, List.setIfInBounds_toArray, List.set_cons_zero, List.set_cons_succ]
    refine ⟨#[.int .u64 (1 : Nat)], by kernel_rfl, ?_⟩
    refine (Num_any 1 wq).mono ?_
    rintro e w' ⟨rfl, hb⟩
    exact ⟨_, rfl, hS.trans (hb.mono hS.size), hb, rfl⟩
  · refine relQuiet 1 rfl rfl hEr (.pointer (some ⟨w.heap.size, 1, none⟩)) (fun _ => rfl) fun u wq hS hd => ?_
    simp only [fillL, Act.put, List.setIfInBounds_toArray, List.set_cons_zero, List.set_cons_succ]
    first | kernel_rfl | (show _ = _; kernel_rfl) | rfl
  · refine relQuiet 2 rfl rfl hEr (.string (B l)) (fun _ => rfl) fun u wq hS hd => ?_
    have h1 : u 1 = .pointer (some ⟨w.heap.size, 1, none⟩) := hd 1 (by kernel_rfl)
    simp only [fillL, Act.put, List.setIfInBounds_toArray, List.set_cons_zero, List.set_cons_succ, h1]
    exact runLdStr (.tmp 33) rfl ⟨w.heap.size, 1, none⟩ rfl _ (by rw [hS.cell (p := ⟨w.heap.size, 1, none⟩) hz0]; exact c1)
  · refine relQuiet 3 rfl rfl hEr (.agg #[.int .i64 3, .int .u64 (0 : Nat), .string (B l), .slice none 0 0, .bool false]) (fun _ => rfl) fun u wq hS hd => ?_
    have h2 : u 2 = .string (B l) := hd 2 (by kernel_rfl)
    simp only [fillL, Act.put, List.setIfInBounds_toArray, List.set_cons_zero, List.set_cons_succ, h2]
    first | kernel_rfl | (show _ = _; kernel_rfl) | rfl
  · refine relRun 4 rfl rfl fun u wq hS hd => ?_
    have h0 : u 0 = .agg #[.int .i64 0, .int .u64 (1 : Nat), .string (B []), .slice none 0 0, .bool false] := hd 0 (by kernel_rfl)
    have h3 : u 3 = .agg #[.int .i64 3, .int .u64 (0 : Nat), .string (B l), .slice none 0 0, .bool false] := hd 3 (by kernel_rfl)
    simp only [fillL, Act.put, List.setIfInBounds_toArray, List.set_cons_zero, List.set_cons_succ, h0, h3]
    refine ⟨_, _, runBldI2 (.tmp 32) (.tmp 35) rfl rfl rfl, hS.alloc hS.size _, (Below.refl _ _).alloc (Nat.le_refl _) _, _, rfl, ?_⟩
    rw [blank_alloc _ hS.size]
    exact tat_two (tat_num _ 1 (by decide)) (tat_text _ l HL.out) (by rw [← blank_size w1.heap.size wq]; exact lt_of_last) (rangeAt_row (by rw [← blank_size w1.heap.size wq]; exact heap_alloc_last _ _)) rfl
  · refine relCall 5 rfl rfl 21 fun u wq hS hd => ?_
    have h0 : u 0 = .agg #[.int .i64 0, .int .u64 (1 : Nat), .string (B []), .slice none 0 0, .bool false] := hd 0 (by kernel_rfl)
    have h4 : (fun zv W => ∃ g, zv = .slice (some ⟨g, 0, none⟩) 2 2 ∧ TAt (blank w1.heap.size W) (arrT [numT 1, .mk 3 0 l [] false]) [.int .i64 4, .int .u64 (0 : Nat), .string (B []), .slice (some ⟨g, 0, none⟩) 2 2, .bool false]) (u 4) wq := hd 4 (by kernel_rfl)
    obtain ⟨g4, e4, t4⟩ := h4
    simp only [fillL, Act.put, List.setIfInBounds_toArray, List.set_cons_zero, List.set_cons_succ, h0, e4]
    refine ⟨#[.slice (some ⟨g4, 0, none⟩) 2 2], by kernel_rfl, ?_⟩
    refine (List_any _ 2 2 wq).mono ?_
    rintro e w' ⟨rfl, hb⟩
    exact ⟨_, rfl, hS.trans (hb.mono hS.size), hb, _, rfl, t4.keep (blank_below hb) (by rw [blank_size]; exact Nat.le_refl _)⟩
  intro u w2 hS hv
  have h0 : u 0 = .agg #[.int .i64 0, .int .u64 (1 : Nat), .string (B []), .slice none 0 0, .bool false] := hv 0 (by decide)
  have h1 : u 1 = .pointer (some ⟨w.heap.size, 1, none⟩) := hv 1 (by decide)
  have h2 : u 2 = .string (B l) := hv 2 (by decide)
  have h3 : u 3 = .agg #[.int .i64 3, .int .u64 (0 : Nat), .string (B l), .slice none 0 0, .bool false] := hv 3 (by decide)
  have h4 : (fun zv W => ∃ g, zv = .slice (some ⟨g, 0, none⟩) 2 2 ∧ TAt (blank w1.heap.size W) (arrT [numT 1, .mk 3 0 l [] false]) [.int .i64 4, .int .u64 (0 : Nat), .string (B []), .slice (some ⟨g, 0, none⟩) 2 2, .bool false]) (u 4) w2 := hv 4 (by decide)
  obtain ⟨g4, e4, t4⟩ := h4
  have h5 : (fun zv W => ∃ g, zv = .agg #[.int .i64 4, .int .u64 (0 : Nat), .string (B []), .slice (some ⟨g, 0, none⟩) 2 2, .bool false] ∧ TAt (blank w1.heap.size W) (arrT [numT 1, .mk 3 0 l [] false]) [.int .i64 4, .int .u64 (0 : Nat), .string (B []), .slice (some ⟨g, 0, none⟩) 2 2, .bool false]) (u 5) w2 := hv 5 (by decide)
  obtain ⟨g5, e5, t5⟩ := h5
  simp only [fillL, Act.put, List.setIfInBounds_toArray, List.set_cons_zero, List.set_cons_succ, h0, h1, h2, h3, e4, e5]
  clear hEr hv h0 h1 h2 h3 e4 e5
  clear u
  refine wpAny_of_held (S := fun _ => True) _ _ _ _ ?_
  refine oneH 6 rfl rfl (by kernel_rfl) fun K hK => ?_
  refine wpH_store rfl 33 (.tmp 2) (.tmp 37) rfl (w.heap.size + 1) (#[.int .i64 4, .int .u64 (0 : Nat), .string (B []), .slice (some ⟨g5, 0, none⟩) 2 2, .bool false]) (#[.int .i64 0, .int .u64 0, .string ⟨#[]⟩, .slice none 0 0, .bool false]) 33 rfl rfl (heap_below hS hz1 c9) infoI rfl (by simp [Value.oneCell']) ?_
  refine hK _ _ trivial fun _ => ?_
  clear hK K
  refine oneH 7 rfl rfl (by kernel_rfl) fun K hK => ?_
  refine wpH_same (some 3) rfl (.int .i64 0) (by kernel_rfl) ?_
  simp only [Act.put, List.setIfInBounds_toArray, List.set_cons_zero, List.set_cons_succ]
  refine hK _ _ trivial fun _ => ?_
  clear hK K
  refine wpAnyH_done (by kernel_rfl) ?_ _
  go_wp2
  refine post_row_tmp (w.heap.size + 1) Tryd.results9 33 #[.int .i64 4, .int .u64 (0 : Nat), .string (B []), .slice (some ⟨g5, 0, none⟩) 2 2, .bool false] _ (.int .i64 0) rfl rfl (setRow_heap _ _ _ _ _ _ (heap_below hS hz1 c9)) Tryd.underlying33 rfl infoI rfl ⟨_, rfl, ?_, setRow_below _ (by omega) (HB.out.trans (hS.mono (by omega)))⟩
  rw [HT.out]
  exact TAt.unblank (n := w1.heap.size) (by rw [blank_setRow _ _ hz1]; exact t5)
set_option maxHeartbeats 1600000 in
set_option maxRecDepth 100000 in
theorem Item_ipn (n v : Nat) (w : World) (hn : n < W64) (hv : v < W64) (h : rightB 2 [] n v = true) : Calls Tryd.prog 9 #[.agg #[.int .i64 2, .string (B []), .int .u64 n, .int .u64 v]] w (TwoI 2 [] n v w) := by
  have H := Lib.hid h
  have HN := Lib.hid hn
  have HV := Lib.hid hv
  have HT : Hid (nameT 2 [] n v = arrT [numT 2, arrT [numT n, numT v]]) := Lib.hid rfl
  clear h hn hv
  go_enter Tryd.func9, Tryd.ntmps9
  go_wp2_with fail
  obtain ⟨w0, hw0⟩ : ∃ w0, (w.alloc (.cells #[.int .i64 2, .string (B []), .int .u64 (n : Nat), .int .u64 (v : Nat)] 25)).alloc (.cells #[.int .i64 0, .int .u64 0, .string ⟨#[]⟩, .slice none 0 0, .bool false] 33) = w0 := ⟨_, rfl⟩
  have gS : w0.heap.size = w.heap.size + 1 + 1 := by rw [← hw0]; show ((w.heap.push _).push _).size = _; simp
  have gb : Below w.heap.size w w0 := by rw [← hw0]; exact ((Below.refl _ _).alloc (Nat.le_refl _) _).alloc (by show w.heap.size ≤ (w.heap.push _).size; simp) _
  have g0 : w0.heap[w.heap.size]? = some (.cells #[.int .i64 2, .string (B []), .int .u64 (n : Nat), .int .u64 (v : Nat)] 25 (0, 0)) := by rw [← hw0]; exact heap_under (heap_alloc_last w _)
  have g9 : w0.heap[w.heap.size + 1]? = some (.cells #[.int .i64 0, .int .u64 0, .string ⟨#[]⟩, .slice none 0 0, .bool false] 33 (0, 0)) := by rw [← hw0]; exact heap_at (by show (w.heap.push _).size = _; simp)
  rw [hw0]
  clear hw0
  refine (Right_any _ _ _ _ _ (by first | exact hl | decide)).mono ?_
  rw [H.out]
  rintro e w1 ⟨rfl, hb⟩
  have hz0 : w.heap.size < w1.heap.size := by have := hb.size; omega
  have hz1 : w.heap.size + 1 < w1.heap.size := by have := hb.size; omega
  have c9 := heap_below hb (by omega) g9
  have q0 := heap_below hb (by omega) g0
  have c0 : w1.cell? ⟨w.heap.size, 0, none⟩ = some (.int .i64 2) := by rw [cell_of_row _ _ _ _ _ _ q0]; rfl
  have c2 : w1.cell? ⟨w.heap.size, 2, none⟩ = some (.int .u64 (n : Nat)) := by rw [cell_of_row _ _ _ _ _ _ q0]; rfl
  have c3 : w1.cell? ⟨w.heap.size, 3, none⟩ = some (.int .u64 (v : Nat)) := by rw [cell_of_row _ _ _ _ _ _ q0]; rfl
  have HB := Lib.hid (gb.trans (hb.mono (by omega)))
  clear hb gS gb g0 g9 q0
  go_wp2_with fail
  have hEr : ∀ W : World, (fun W W' => Below W.heap.size W W') W W := fun W => Below.refl _ _
  refine wp_region_rel 11 2 0 (fun W => Below w1.heap.size w1 W) [13, 14, 15, 16, 17, 18, 19, 20, 21, 22, 23] (relAt [fun zv _ => zv = .agg #[.int .i64 0, .int .u64 (2 : Nat), .string (B []), .slice none 0 0, .bool false], fun zv _ => zv = .pointer (some ⟨w.heap.size, 2, none⟩), fun zv _ => zv = .int .u64 (n : Nat), fun zv _ => zv = .agg #[.int .i64 0, .int .u64 (n : Nat), .string (B []), .slice none 0 0, .bool false], fun zv _ => zv = .pointer (some ⟨w.heap.size, 3, none⟩), fun zv _ => zv = .int .u64 (v : Nat), fun zv _ => zv = .agg #[.int .i64 0, .int .u64 (v : Nat), .string (B []), .slice none 0 0, .bool false], fun zv W => ∃ g, zv = .slice (some ⟨g, 0, none⟩) 2 2 ∧ TAt (blank w1.heap.size W) (arrT [numT n, numT v]) [.int .i64 4, .int .u64 (0 : Nat), .string (B []), .slice (some ⟨g, 0, none⟩) 2 2, .bool false], fun zv W => ∃ g, zv = .agg #[.int .i64 4, .int .u64 (0 : Nat), .string (B []), .slice (some ⟨g, 0, none⟩) 2 2, .bool false] ∧ TAt (blank w1.heap.size W) (arrT [numT n, numT v]) [.int .i64 4, .int .u64 (0 : Nat), .string (B []), .slice (some ⟨g, 0, none⟩) 2 2, .bool false], fun zv W => ∃ g, zv = .slice (some ⟨g, 0, none⟩) 2 2 ∧ TAt (blank w1.heap.size W) (arrT [numT 2, arrT [numT n, numT v]]) [.int .i64 4, .int .u64 (0 : Nat), .string (B []), .slice (some ⟨g, 0, none⟩) 2 2, .bool false], fun zv W => ∃ g, zv = .agg #[.int .i64 4, .int .u64 (0 : Nat), .string (B []), .slice (some ⟨g, 0, none⟩) 2 2, .bool false] ∧ TAt (blank w1.heap.size W) (arrT [numT 2, arrT [numT n, numT v]]) [.int .i64 4, .int .u64 (0 : Nat), .string (B []), .slice (some ⟨g, 0, none⟩) 2 2, .bool false]]) (fun W W' => Below W.heap.size W W') (by kernel_rfl) rfl rfl (by kernel_rfl) (by kernel_rfl) (by kernel_rfl) (by kernel_rfl) (Mono.at ⟨fun _ _ _ _ h => h, fun _ _ _ _ h => h, fun _ _ _ _ h => h, fun _ _ _ _ h => h, fun _ _ _ _ h => h, fun _ _ _ _ h => h, fun _ _ _ _ h => h, fun _ _ _ hb ⟨g, h1, h2⟩ => ⟨g, h1, h2.keep (blank_below hb) (by rw [blank_size]; exact Nat.le_refl _)⟩, fun _ _ _ hb ⟨g, h1, h2⟩ => ⟨g, h1, h2.keep (blank_below hb) (by rw [blank_size]; exact Nat.le_refl _)⟩, fun _ _ _ hb ⟨g, h1, h2⟩ => ⟨g, h1, h2.keep (blank_below hb) (by rw [blank_size]; exact Nat.le_refl _)⟩, fun _ _ _ hb ⟨g, h1, h2⟩ => ⟨g, h1, h2.keep (blank_below hb) (by rw [blank_size]; exact Nat.le_refl _)⟩, trivial⟩) ((Below.refl _ _).drew) ⟨?_, ?_, ?_, ?_, ?_, ?_, ?_, ?_, ?_, ?_, ?_, trivial⟩ ?_
  · refine relCall 0 rfl rfl 22 fun u wq hS hd => ?_
    simp only [fillL, Act.put, List.setIfInBounds_toArray, List.set_cons_zero, List.set_cons_succ]
    refine ⟨#[.int .u64 (2 : Nat)], by kernel_rfl, ?_⟩
    refine (Num_any 2 wq).mono ?_
    rintro e w' ⟨rfl, hb⟩
    exact ⟨_, rfl, hS.trans (hb.mono hS.size), hb, rfl⟩
  · refine relQuiet 1 rfl rfl hEr (.pointer (some ⟨w.heap.size, 2, none⟩)) (fun _ => rfl) fun u wq hS hd => ?_
    simp only [fillL, Act.put, List.setIfInBounds_toArray, List.set_cons_zero, List.set_cons_succ]
    first | kernel_rfl | (show _ = _; kernel_rfl) | rfl
  · refine relQuiet 2 rfl rfl hEr (.int .u64 (n : Nat)) (fun _ => rfl) fun u wq hS hd => ?_
    have h1 : u 1 = .pointer (some ⟨w.heap.size, 2, none⟩) := hd 1 (by kernel_rfl)
    simp only [fillL, Act.put, List.setIfInBounds_toArray, List.set_cons_zero, List.set_cons_succ, h1]
    exact runLdU64 (.tmp 14) rfl ⟨w.heap.size, 2, none⟩ rfl _ (by rw [hS.cell (p := ⟨w.heap.size, 2, none⟩) hz0]; exact c2)
  · refine relCall 3 rfl rfl 22 fun u wq hS hd => ?_
    have h0 : u 0 = .agg #[.int .i64 0, .int .u64 (2 : Nat), .string (B []), .slice none 0 0, .bool false] := hd 0 (by kernel_rfl)
    have h2 : u 2 = .int .u64 (n : Nat) := hd 2 (by kernel_rfl)
    simp only [fillL, Act.put, List.setIfInBounds_toArray, List.set_cons_zero, List.set_cons_succ, h0, h2]
    refine ⟨#[.int .u64 (n : Nat)], by kernel_rfl, ?_⟩
    refine (Num_any n wq).mono ?_
    rintro e w' ⟨rfl, hb⟩
    exact ⟨_, rfl, hS.trans (hb.mono hS.size), hb, rfl⟩
  · refine relQuiet 4 rfl rfl hEr (.pointer (some ⟨w.heap.size, 3, none⟩)) (fun _ => rfl) fun u wq hS hd => ?_
    simp only [fillL, Act.put, List.setIfInBounds_toArray, List.set_cons_zero, List.set_cons_succ]
    first | kernel_rfl | (show _ = _; kernel_rfl) | rfl
  · refine relQuiet 5 rfl rfl hEr (.int .u64 (v : Nat)) (fun _ => rfl) fun u wq hS hd => ?_
    have h4 : u 4 = .pointer (some ⟨w.heap.size, 3, none⟩) := hd 4 (by kernel_rfl)
    simp only [fillL, Act.put, List.setIfInBounds_toArray, List.set_cons_zero, List.set_cons_succ, h4]
    exact runLdU64 (.tmp 17) rfl ⟨w.heap.size, 3, none⟩ rfl _ (by rw [hS.cell (p := ⟨w.heap.size, 3, none⟩) hz0]; exact c3)
  · refine relCall 6 rfl rfl 22 fun u wq hS hd => ?_
    have h3 : u 3 = .agg #[.int .i64 0, .int .u64 (n : Nat), .string (B []), .slice none 0 0, .bool false] := hd 3 (by kernel_rfl)
    have h5 : u 5 = .int .u64 (v : Nat) := hd 5 (by kernel_rfl)
    simp only [fillL, Act.put, List.setIfInBounds_toArray, List.set_cons_zero, List.set_cons_succ, h3, h5]
    refine ⟨#[.int .u64 (v : Nat)], by kernel_rfl, ?_⟩
    refine (Num_any v wq).mono ?_
    rintro e w' ⟨rfl, hb⟩
    exact ⟨_, rfl, hS.trans (hb.mono hS.size), hb, rfl⟩
  · refine relRun 7 rfl rfl fun u wq hS hd => ?_
    have h3 : u 3 = .agg #[.int .i64 0, .int .u64 (n : Nat), .string (B []), .slice none 0 0, .bool false] := hd 3 (by kernel_rfl)
    have h6 : u 6 = .agg #[.int .i64 0, .int .u64 (v : Nat), .string (B []), .slice none 0 0, .bool false] := hd 6 (by kernel_rfl)
    simp only [fillL, Act.put, List.setIfInBounds_toArray, List.set_cons_zero, List.set_cons_succ, h3, h6]
    refine ⟨_, _, runBldI2 (.tmp 16) (.tmp 19) rfl rfl rfl, hS.alloc hS.size _, (Below.refl _ _).alloc (Nat.le_refl _) _, _, rfl, ?_⟩
    rw [blank_alloc _ hS.size]
    exact tat_two (tat_num _ n HN.out) (tat_num _ v HV.out) (by rw [← blank_size w1.heap.size wq]; exact lt_of_last) (rangeAt_row (by rw [← blank_size w1.heap.size wq]; exact heap_alloc_last _ _)) rfl
  · refine relCall 8 rfl rfl 21 fun u wq hS hd => ?_
    have h6 : u 6 = .agg #[.int .i64 0, .int .u64 (v : Nat), .string (B []), .slice none 0 0, .bool false] := hd 6 (by kernel_rfl)
    have h7 : (fun zv W => ∃ g, zv = .slice (some ⟨g, 0, none⟩) 2 2 ∧ TAt (blank w1.heap.size W) (arrT [numT n, numT v]) [.int .i64 4, .int .u64 (0 : Nat), .string (B []), .slice (some ⟨g, 0, none⟩) 2 2, .bool false]) (u 7) wq := hd 7 (by kernel_rfl)
    obtain ⟨g7, e7, t7⟩ := h7
    simp only [fillL, Act.put, List.setIfInBounds_toArray, List.set_cons_zero, List.set_cons_succ, h6, e7]
    refine ⟨#[.slice (some ⟨g7, 0, none⟩) 2 2], by kernel_rfl, ?_⟩
    refine (List_any _ 2 2 wq).mono ?_
    rintro e w' ⟨rfl, hb⟩
    exact ⟨_, rfl, hS.trans (hb.mono hS.size), hb, _, rfl, t7.keep (blank_below hb) (by rw [blank_size]; exact Nat.le_refl _)⟩
  · refine relRun 9 rfl rfl fun u wq hS hd => ?_
    have h0 : u 0 = .agg #[.int .i64 0, .int .u64 (2 : Nat), .string (B []), .slice none 0 0, .bool false] := hd 0 (by kernel_rfl)
    have h8 : (fun zv W => ∃ g, zv = .agg #[.int .i64 4, .int .u64 (0 : Nat), .string (B []), .slice (some ⟨g, 0, none⟩) 2 2, .bool false] ∧ TAt (blank w1.heap.size W) (arrT [numT n, numT v]) [.int .i64 4, .int .u64 (0 : Nat), .string (B []), .slice (some ⟨g, 0, none⟩) 2 2, .bool false]) (u 8) wq := hd 8 (by kernel_rfl)
    obtain ⟨g8, e8, t8⟩ := h8
    simp only [fillL, Act.put, List.setIfInBounds_toArray, List.set_cons_zero, List.set_cons_succ, h0, e8]
    refine ⟨_, _, runBldI2 (.tmp 13) (.tmp 21) rfl rfl rfl, hS.alloc hS.size _, (Below.refl _ _).alloc (Nat.le_refl _) _, _, rfl, ?_⟩
    rw [blank_alloc _ hS.size]
    exact tat_two (tat_num _ 2 (by decide)) (t8.keep ((Below.refl _ _).alloc (Nat.le_refl _) _) (Nat.le_refl _)) (by rw [← blank_size w1.heap.size wq]; exact lt_of_last) (rangeAt_row (by rw [← blank_size w1.heap.size wq]; exact heap_alloc_last _ _)) rfl
  · refine relCall 10 rfl rfl 21 fun u wq hS hd => ?_
    have h8 : (fun zv W => ∃ g, zv = .agg #[.int .i64 4, .int .u64 (0 : Nat), .string (B []), .slice (some ⟨g, 0, none⟩) 2 2, .bool false] ∧ TAt (blank w1.heap.size W) (arrT [numT n, numT v]) [.int .i64 4, .int .u64 (0 : Nat), .string (B []), .slice (some ⟨g, 0, none⟩) 2 2, .bool false]) (u 8) wq := hd 8 (by kernel_rfl)
    obtain ⟨g8, e8, t8⟩ := h8
    have h9 : (fun zv W => ∃ g, zv = .slice (some ⟨g, 0, none⟩) 2 2 ∧ TAt (blank w1.heap.size W) (arrT [numT 2, arrT [numT n, numT v]]) [.int .i64 4, .int .u64 (0 : Nat), .string (B []), .slice (some ⟨g, 0, none⟩) 2 2, .bool false]) (u 9) wq := hd 9 (by kernel_rfl)
    obtain ⟨g9, e9, t9⟩ := h9
    simp only [fillL, Act.put, List.setIfInBounds_toArray, List.set_cons_zero, List.set_cons_succ, e8, e9]
    refine ⟨#[.slice (some ⟨g9, 0, none⟩) 2 2], by kernel_rfl, ?_⟩
    refine (List_any _ 2 2 wq).mono ?_
    rintro e w' ⟨rfl, hb⟩
    exact ⟨_, rfl, hS.trans (hb.mono hS.size), hb, _, rfl, t9.keep (blank_below hb) (by rw [blank_size]; exact Nat.le_refl _)⟩
  intro u w2 hS hv
  have h0 : u 0 = .agg #[.int .i64 0, .int .u64 (2 : Nat), .string (B []), .slice none 0 0, .bool false] := hv 0 (by decide)
  have h1 : u 1 = .pointer (some ⟨w.heap.size, 2, none⟩) := hv 1 (by decide)
  have h2 : u 2 = .int .u64 (n : Nat) := hv 2 (by decide)
  have h3 : u 3 = .agg #[.int .i64 0, .int .u64 (n : Nat), .string (B []), .slice none 0 0, .bool false] := hv 3 (by decide)
  have h4 : u 4 = .pointer (some ⟨w.heap.size, 3, none⟩) := hv 4 (by decide)
  have h5 : u 5 = .int .u64 (v : Nat) := hv 5 (by decide)
  have h6 : u 6 = .agg #[.int .i64 0, .int .u64 (v : Nat), .string (B []), .slice none 0 0, .bool false] := hv 6 (by decide)
  have h7 : (fun zv W => ∃ g, zv = .slice (some ⟨g, 0, none⟩) 2 2 ∧ TAt (blank w1.heap.size W) (arrT [numT n, numT v]) [.int .i64 4, .int .u64 (0 : Nat), .string (B []), .slice (some ⟨g, 0, none⟩) 2 2, .bool false]) (u 7) w2 := hv 7 (by decide)
  obtain ⟨g7, e7, t7⟩ := h7
  have h8 : (fun zv W => ∃ g, zv = .agg #[.int .i64 4, .int .u64 (0 : Nat), .string (B []), .slice (some ⟨g, 0, none⟩) 2 2, .bool false] ∧ TAt (blank w1.heap.size W) (arrT [numT n, numT v]) [.int .i64 4, .int .u64 (0 : Nat), .string (B []), .slice (some ⟨g, 0, none⟩) 2 2, .bool false]) (u 8) w2 := hv 8 (by decide)
  obtain ⟨g8, e8, t8⟩ := h8
  have h9 : (fun zv W => ∃ g, zv = .slice (some ⟨g, 0, none⟩) 2 2 ∧ TAt (blank w1.heap.size W) (arrT [numT 2, arrT [numT n, numT v]]) [.int .i64 4, .int .u64 (0 : Nat), .string (B []), .slice (some ⟨g, 0, none⟩) 2 2, .bool false]) (u 9) w2 := hv 9 (by decide)
  obtain ⟨g9, e9, t9⟩ := h9
  have h10 : (fun zv W => ∃ g, zv = .agg #[.int .i64 4, .int .u64 (0 : Nat), .string (B []), .slice (some ⟨g, 0, none⟩) 2 2, .bool false] ∧ TAt (blank w1.heap.size W) (arrT [numT 2, arrT [numT n, numT v]]) [.int .i64 4, .int .u64 (0 : Nat), .string (B []), .slice (some ⟨g, 0, none⟩) 2 2, .bool false]) (u 10) w2 := hv 10 (by decide)
  obtain ⟨g10, e10, t10⟩ := h10
  simp only [fillL, Act.put, List.setIfInBounds_toArray, List.set_cons_zero, List.set_cons_succ, h0, h1, h2, h3, h4, h5, h6, e7, e8, e9, e10]
  clear hEr hv h0 h1 h2 h3 h4 h5 h6 e7 e8 e9 e10
  clear u
  refine wpAny_of_held (S := fun _ => True) _ _ _ _ ?_
  refine oneH 11 rfl rfl (by kernel_rfl) fun K hK => ?_
  refine wpH_store rfl 33 (.tmp 2) (.tmp 23) rfl (w.heap.size + 1) (#[.int .i64 4, .int .u64 (0 : Nat), .string (B []), .slice (some ⟨g10, 0, none⟩) 2 2, .bool false]) (#[.int .i64 0, .int .u64 0, .string ⟨#[]⟩, .slice none 0 0, .bool false]) 33 rfl rfl (heap_below hS hz1 c9) infoI rfl (by simp [Value.oneCell']) ?_
  refine hK _ _ trivial fun _ => ?_
  clear hK K
  refine oneH 12 rfl rfl (by kernel_rfl) fun K hK => ?_
  refine wpH_same (some 3) rfl (.int .i64 0) (by kernel_rfl) ?_
  simp only [Act.put, List.setIfInBounds_toArray, List.set_cons_zero, List.set_cons_succ]
  refine hK _ _ trivial fun _ => ?_
  clear hK K
  refine wpAnyH_done (by kernel_rfl) ?_ _
  go_wp2
  refine post_row_tmp (w.heap.size + 1) Tryd.results9 33 #[.int .i64 4, .int .u64 (0 : Nat), .string (B []), .slice (some ⟨g10, 0, none⟩) 2 2, .bool false] _ (.int .i64 0) rfl rfl (setRow_heap _ _ _ _ _ _ (heap_below hS hz1 c9)) Tryd.underlying33 rfl infoI rfl ⟨_, rfl, ?_, setRow_below _ (by omega) (HB.out.trans (hS.mono (by omega)))⟩
  rw [HT.out]
  exact TAt.unblank (n := w1.heap.size) (by rw [blank_setRow _ _ hz1]; exact t10)
set_option maxHeartbeats 1600000 in
set_option maxRecDepth 100000 in
theorem Item_none (w : World) : Calls Tryd.prog 9 #[.agg #[.int .i64 1, .string (B [110, 111, 110, 101]), .int .u64 0, .int .u64 0]] w (TwoI 1 [110, 111, 110, 101] 0 0 w) := by
  have H : Hid (rightB 1 [110, 111, 110, 101] 0 0 = true) := Lib.hid (by decide)
  have HT : Hid (nameT 1 [110, 111, 110, 101] 0 0 = arrT [numT 1, numT 0]) := Lib.hid rfl
  go_enter Tryd.func9, Tryd.ntmps9
  go_wp2_with fail
  obtain ⟨w0, hw0⟩ : ∃ w0, (w.alloc (.cells #[.int .i64 1, .string (B [110, 111, 110, 101]), .int .u64 0, .int .u64 0] 25)).alloc (.cells #[.int .i64 0, .int .u64 0, .string ⟨#[]⟩, .slice none 0 0, .bool false] 33) = w0 := ⟨_, rfl⟩
  have gS : w0.heap.size = w.heap.size + 1 + 1 := by rw [← hw0]; show ((w.heap.push _).push _).size = _; simp
  have gb : Below w.heap.size w w0 := by rw [← hw0]; exact ((Below.refl _ _).alloc (Nat.le_refl _) _).alloc (by show w.heap.size ≤ (w.heap.push _).size; simp) _
  have g0 : w0.heap[w.heap.size]? = some (.cells #[.int .i64 1, .string (B [110, 111, 110, 101]), .int .u64 0, .int .u64 0] 25 (0, 0)) := by rw [← hw0]; exact heap_under (heap_alloc_last w _)
  have g9 : w0.heap[w.heap.size + 1]? = some (.cells #[.int .i64 0, .int .u64 0, .string ⟨#[]⟩, .slice none 0 0, .bool false] 33 (0, 0)) := by rw [← hw0]; exact heap_at (by show (w.heap.push _).size = _; simp)
  rw [hw0]
  clear hw0
  refine (Right_any _ _ _ _ _ (by first | exact hl | decide)).mono ?_
  rw [H.out]
  rintro e w1 ⟨rfl, hb⟩
  have hz0 : w.heap.size < w1.heap.size := by have := hb.size; omega
  have hz1 : w.heap.size + 1 < w1.heap.size := by have := hb.size; omega
  have c9 := heap_below hb (by omega) g9
  have q0 := heap_below hb (by omega) g0
  have c0 : w1.cell? ⟨w.heap.size, 0, none⟩ = some (.int .i64 1) := by rw [cell_of_row _ _ _ _ _ _ q0]; rfl
  have c1 : w1.cell? ⟨w.heap.size, 1, none⟩ = some (.string (B [110, 111, 110, 101])) := by rw [cell_of_row _ _ _ _ _ _ q0]; rfl
  have HB := Lib.hid (gb.trans (hb.mono (by omega)))
  clear hb gS gb g0 g9 q0
  go_wp2_with fail
  refine (Num_any 1 _).mono ?_
  rintro e wa ⟨rfl, ha⟩
  go_wp2_with fail
  refine (Num_any 0 _).mono ?_
  rintro e wb ⟨rfl, hb⟩
  have hab := ha.trans (hb.mono ha.size)
  have hsb := hab.size
  go_wp2_with fail
  refine (List_any (some ⟨wb.heap.size, 0, none⟩) 2 2 _).mono ?_
  rintro e wc ⟨rfl, hc⟩
  have hq1 : Below w1.heap.size w1 (wb.alloc (.cells #[.int .i64 0, .int .u64 1, .string (B []), .slice none 0 0, .bool false, .int .i64 0, .int .u64 0, .string (B []), .slice none 0 0, .bool false] 33)) := hab.alloc hsb _
  have hS := hq1.trans (hc.mono hq1.size)
  have tq : TAt (blank w1.heap.size (wb.alloc (.cells #[.int .i64 0, .int .u64 1, .string (B []), .slice none 0 0, .bool false, .int .i64 0, .int .u64 0, .string (B []), .slice none 0 0, .bool false] 33))) (arrT [numT 1, numT 0]) [.int .i64 4, .int .u64 (0 : Nat), .string (B []), .slice (some ⟨wb.heap.size, 0, none⟩) 2 2, .bool false] := by
    rw [blank_alloc _ hsb]
    exact tat_two (tat_num _ 1 (by decide)) (tat_num _ 0 (by decide)) (by rw [← blank_size w1.heap.size wb]; exact lt_of_last) (rangeAt_row (by rw [← blank_size w1.heap.size wb]; exact heap_alloc_last _ _)) rfl
  have t5 : TAt (blank w1.heap.size wc) (arrT [numT 1, numT 0]) [.int .i64 4, .int .u64 (0 : Nat), .string (B []), .slice (some ⟨wb.heap.size, 0, none⟩) 2 2, .bool false] := tq.keep (blank_below hc) (by rw [blank_size]; exact Nat.le_refl _)
  go_wp2_with (with_reducible refine stop_store 33 rfl ?_)
  refine store_row 33 (.tmp 2) (.tmp 31) rfl rfl rfl (w.heap.size + 1) #[.int .i64 4, .int .u64 (0 : Nat), .string (B []), .slice (some ⟨wb.heap.size, 0, none⟩) 2 2, .bool false] rfl rfl 33 _ (heap_below hS hz1 c9) infoI rfl (by simp [Value.oneCell']) ?_
  go_wp2
  refine post_row_tmp (w.heap.size + 1) Tryd.results9 33 #[.int .i64 4, .int .u64 (0 : Nat), .string (B []), .slice (some ⟨wb.heap.size, 0, none⟩) 2 2, .bool false] _ (.int .i64 0) rfl rfl (setRow_heap _ _ _ _ _ _ (heap_below hS hz1 c9)) Tryd.underlying33 rfl infoI rfl ⟨_, rfl, ?_, setRow_below _ (by omega) (HB.out.trans (hS.mono (by omega)))⟩
  rw [HT.out]
  exact TAt.unblank (n := w1.heap.size) (by rw [blank_setRow _ _ hz1]; exact t5)
theorem Item_any (s : Nat) (l : List UInt8) (n v : Nat) (w : World) (hl : l.length ≤ maxLen) (hl2 : l.length ≤ R47) (hn : n < W64) (hv : v < W64) (h : rightB s l n v = true) : Calls Tryd.prog 9 #[.agg #[.int .i64 s, .string (B l), .int .u64 n, .int .u64 v]] w (TwoI s l n v w) := by
  have h' := h
  unfold rightB at h'
  by_cases h1 : (s : Int) = 1
  · obtain rfl : s = 1 := by omega
    rw [if_pos h1, Bool.and_eq_true, decide_eq_true_eq] at h'
    obtain ⟨⟨hn0, hv0⟩, _⟩ := h'
    obtain rfl : n = 0 := by omega
    obtain rfl : v = 0 := by omega
    by_cases hne : l = [110, 111, 110, 101]
    · subst hne; exact Item_none w
    · exact Item_text l w hl hl2 (by simpa using hne) h
  · rw [if_neg h1] at h'
    by_cases h2 : (s : Int) = 2
    · obtain rfl : s = 2 := by omega
      rw [if_pos h2, decide_eq_true_eq] at h'
      obtain ⟨rfl, _, _⟩ := h'
      exact Item_ipn n v w hn hv h
    · rw [if_neg h2] at h'
      cases h'
end Go.Proofs.YtlbpodddokhmaaaDoor.Itm
