/-
  AES: the walk of New.
  Conditions: named at each.
-/
import Derived.Test.YtlbpodddokhmaaaGreatAesM
import Derived.Test.YtlbpodddokhmaaaGreatAes9
import Derived.Deep.MidRow
namespace Go.Proofs.YtlbpodddokhmaaaGreat.Aes
open Go.ChangeShapes Go.WideShapes Go.ChangeAt Go.RowKit Go.Deep Go.Great
theorem stop_store {P : Program} {ops : Array Oper} {rest : List Oper} {o : Oper} {a : Act} {w : World} {Q : Exit → Act → World → Prop} {t : TypeId} {x y : Operand} (_ : o.op = .store t x y) (h : RowKit.Hid (wpList P ops Q (o :: rest) a w)) : wpList P ops Q (o :: rest) a w := h.out
def overL (c : Array Value) : Nat → List Value → Array Value
  | _, [] => c
  | o, v :: r => overL (c.setIfInBounds o v) (o + 1) r
theorem overL_mid (q : List Value) : ∀ (l m p : List Value), l.length = m.length → overL (p ++ m ++ q).toArray p.length l = (p ++ l ++ q).toArray
  | [], [], p, _ => rfl
  | x :: l, y :: m, p, h => by
    have e : (p ++ (y :: m) ++ q).toArray.setIfInBounds p.length x = ((p ++ [x]) ++ m ++ q).toArray := by simp
    have e2 := overL_mid q l m (p ++ [x]) (by simpa using h)
    rw [overL, e, show p.length + 1 = (p ++ [x]).length by simp, e2]
    simp
theorem setCells_heap (b : Nat) (t : TypeId) (fr : Nat × Nat) : ∀ (l : List Value) (o : Nat) (W : World) (c : Array Value), W.heap[b]? = some (.cells c t fr) → (W.setCells b o l).heap[b]? = some (.cells (overL c o l) t fr)
  | [], _, _, _, h => h
  | v :: r, o, W, c, h => by
    refine setCells_heap b t fr r (o + 1) _ _ ?_
    simp only [World.setCell, Array.getElem?_modify, if_pos, h, Option.map_some, Option.isSome_none, Bool.false_eq_true, if_false]
theorem setCells_below {B b : Nat} {w : World} (hB : B ≤ b) : ∀ (l : List Value) (o : Nat) {W : World}, Below B w W → Below B w (W.setCells b o l)
  | [], _, _, h => h
  | v :: r, o, _, h => setCells_below hB r (o + 1) (h.setCell hB v)
theorem setCells_size (b : Nat) : ∀ (l : List Value) (o : Nat) (W : World), (W.setCells b o l).heap.size = W.heap.size
  | [], _, _ => rfl
  | v :: r, o, W => by rw [World.setCells, setCells_size b r]; simp [World.setCell]
/-- A part of a block laid over. -/
theorem wpList_store_part {P : Program} {ops : Array Oper} {rest : List Oper} {op : Oper} {a : Act} {W : World} {Q : Exit → Act → World → Prop} (hgd : op.guard = none) (hd : op.dst = none) (ty : TypeId) (x y : Operand) (ho : op.op = .store ty x y)
    (b o : Nat) (cells c : Array Value) (t : TypeId) (hx : a.eval x = .pointer (some ⟨b, o, none⟩)) (hy : a.eval y = .agg cells) (hb : W.heap[b]? = some (.cells c t (0, 0))) (hs : o + cells.size ≤ c.size)
    (hi : (P.info? ty).map (·.size) = some cells.size) (h1 : cells.all (·.oneCell') = true)
    (h : wpList P ops Q rest a (W.setCells b o cells.toList)) : wpList P ops Q (op :: rest) a W := by
  refine wpList_store_mid hgd ty x y ho b o cells hx hy (fun j hj => ⟨?_, ?_⟩) hi h1 (by rw [hd]; exact h)
  · rw [cell_of_row W b _ _ _ _ hb]
    simp
    omega
  · simp [World.frozen?, hb]
theorem ciph_list (r : Nat) (v : Value) (S K : List Nat) : ciph r v S K = ([.int .i64 r, v] ++ vals S ++ vals K).toArray := by simp [ciph, nums, vals]
theorem over_sub (r : Nat) (v : Value) (S K S' : List Nat) (h : S'.length = S.length) : overL (ciph r v S K) 2 (nums .u8 S').toList = ciph r v S' K := by
  rw [ciph_list, ciph_list, vals_nums]
  exact overL_mid (vals K) (vals S') (vals S) [.int .i64 r, v] (by simp [vals, h])
theorem over_back (r : Nat) (v : Value) (S K K' : List Nat) (hS : S.length = 256) (h : K'.length = K.length) : overL (ciph r v S K) 258 (nums .u8 K').toList = ciph r v S K' := by
  rw [ciph_list, ciph_list, vals_nums]
  have := overL_mid [] (vals K') (vals K) ([.int .i64 r, v] ++ vals S) (by simp [vals, h])
  simp only [List.append_nil] at this
  rw [show ([Value.int .i64 (r : Int), v] ++ vals S).length = 258 by simp [vals, hS]] at this
  exact this
theorem ciph_size (r : Nat) (v : Value) (S K : List Nat) : (ciph r v S K).size = 2 + S.length + K.length := by simp [ciph, nums]; omega
theorem New_none (key : List UInt8) (w : World) (h : ¬ key.length = 16) (h2 : ¬ key.length = 32) : Calls Tryz.prog 91 #[.string (B key)] w fun e w' => e = .returned (.tuple #[.pointer none, .int .i64 1]) ∧ Below w.heap.size w w' := by
  have hi1 : ((key.length : Int) != 16) = true := by simp; omega
  have hi2 : ((key.length : Int) != 32) = true := by simp; omega
  go_enter Tryz.func91, Tryz.ntmps91
  go_wp2
  go_ret2
  exact ⟨rfl, by ((repeat' (with_reducible first | exact Below.refl _ _ | assumption | refine Below.drew ?_ | refine below_drewN ?_ _ | refine Below.setCell ?_ ?_ _ | refine Below.alloc ?_ ?_ _ | refine Below.ext ?_ ?_ _ | refine Below.trans ?_ (Below.mono ‹_› ?_))) <;> first | omega | (simp; done) | (simp; omega))⟩
/-- A cipher lies in memory: its rounds, its words, its table. -/
def CipherAt (w : World) (cb r : Nat) (ws : List Nat) : Prop :=
  ∃ g cap Bk, w.heap[cb]? = some (.cells (ciph r (.slice (some ⟨g, 0, none⟩) (r + 1) cap) subT Bk) 143 (0, 0)) ∧ Bk.length = 256 ∧ g < w.heap.size ∧ ∀ x, x < (r + 1) * 16 → w.cell? ⟨g, x, none⟩ = some (.int .u8 ((ws.getD x 0 : Nat) : Int))
set_option maxHeartbeats 800000 in
set_option maxRecDepth 100000 in
theorem New16 (key : List UInt8) (w : World) (h : key.length = 16) : Calls Tryz.prog 91 #[.string (B key)] w fun e w' => e = .returned (.tuple #[.pointer (some ⟨w.heap.size, 0, none⟩), .int .i64 0]) ∧ CipherAt w' w.heap.size 10 (wordsL subT key 4 44) ∧ Below w.heap.size w w' := by
  have HT := Lib.hid tables_any
  go_enter Tryz.func91, Tryz.ntmps91
  go_wp2_with fail
  rw [show Tryz.zeroCells143.setIfInBounds 0 (.int .i64 10) = ciph 10 (.slice none 0 0) (zeros 256) (zeros 256) by kernel_rfl]
  refine Calls.ext (HT.out _) fun u => ?_
  clear HT
  generalize hcell : ciph 10 (.slice none 0 0) (zeros 256) (zeros 256) = C at *
  have HC := Lib.hid hcell
  clear hcell
  generalize hs : nums .u8 subT = S at *
  generalize hb : nums .u8 backT = Bk at *
  have HS := Lib.hid hs
  have HB := Lib.hid hb
  clear hs hb
  go_wp2_with (with_reducible refine stop_store (t := 141) rfl ?_)
  refine Lib.hid ?_
  have hS := HS.out
  have hB := HB.out
  have hC := HC.out
  have hz := zeros_length 256
  have hC0 : C.size = 514 := by rw [← hC, ciph_size, hz]
  have hS0 : S.size = 256 := by rw [← hS, nums_size, subT_length]
  have hB0 : Bk.size = 256 := by rw [← hB, nums_size, backT_length]
  have hheap : (ext (w.alloc (.cells C 143)) u).heap[w.heap.size]? = some (.cells C 143 (0, 0)) := heap_ext (heap_alloc_last w _)
  have hbel : Below w.heap.size w (ext (w.alloc (.cells C 143)) u) := by ((repeat' (with_reducible first | exact Below.refl _ _ | assumption | refine Below.drew ?_ | refine below_drewN ?_ _ | refine Below.setCell ?_ ?_ _ | refine Below.alloc ?_ ?_ _ | refine Below.ext ?_ ?_ _ | refine Below.trans ?_ (Below.mono ‹_› ?_))) <;> first | omega | (simp; done) | (simp; omega))
  have hsz : w.heap.size < (ext (w.alloc (.cells C 143)) u).heap.size := by simp; omega
  generalize ext (w.alloc (.cells C 143)) u = W at *
  refine wpList_store_part rfl rfl 141 _ _ rfl w.heap.size 2 S C 143 rfl rfl hheap (by omega) (by rw [hS0]; kernel_rfl) (by rw [← hS]; exact nums_oneCell _ _) ?_
  have hh1 := setCells_heap w.heap.size 143 (0, 0) S.toList 2 W C hheap
  rw [← hS, ← hC, over_sub _ _ _ _ _ (by rw [subT_length, hz])] at hh1
  have hbel1 := setCells_below (Nat.le_refl _) S.toList 2 hbel
  have hsz1 : w.heap.size < (W.setCells w.heap.size 2 S.toList).heap.size := by rw [setCells_size]; exact hsz
  rw [hS] at hh1
  generalize W.setCells w.heap.size 2 S.toList = W1 at *
  clear hheap hbel hsz W
  go_wp2_with (with_reducible refine stop_store (t := 141) rfl ?_)
  refine Lib.hid ?_
  refine wpList_store_part rfl rfl 141 _ _ rfl w.heap.size 258 Bk (ciph 10 (.slice none 0 0) subT (zeros 256)) 143 rfl rfl hh1 (by rw [ciph_size, subT_length, hz]; omega) (by rw [hB0]; kernel_rfl) (by rw [← hB]; exact nums_oneCell _ _) ?_
  have hh2 := setCells_heap w.heap.size 143 (0, 0) Bk.toList 258 W1 _ hh1
  rw [← hB, over_back _ _ _ _ _ subT_length (by rw [backT_length, hz])] at hh2
  have hbel2 := setCells_below (Nat.le_refl _) Bk.toList 258 hbel1
  have hsz2 : w.heap.size < (W1.setCells w.heap.size 258 Bk.toList).heap.size := by rw [setCells_size]; exact hsz1
  rw [hB] at hh2
  generalize W1.setCells w.heap.size 258 Bk.toList = W2 at *
  clear hh1 hbel1 hsz1 W1
  have hexp := expand4 subT backT key w.heap.size W2 h subT_bytes subT_length backT_length hh2
  have HEXP := Lib.hid hexp
  have HBEL := Lib.hid hbel2
  clear hexp hh2 hbel2 hS hB hC hS0 hB0 hC0
  go_wp2_with fail
  refine Calls.mono HEXP.out ?_
  rintro _ W3 ⟨rfl, v, hcb, hown, hbel3⟩
  have hpost : CipherAt W3 w.heap.size 10 (wordsL subT key 4 44) ∧ Below w.heap.size w W3 := by
    refine ⟨?_, HBEL.out.trans hbel3⟩
    obtain ⟨g, cap, rfl, _, hg⟩ := hown.form (by omega)
    refine ⟨g, cap, backT, hcb, backT_length, hg, fun x hx => ?_⟩
    rw [hown.cellAt x hx]
    simp [vals, List.getD, wordsL_length, show x < 44 * 4 by omega]
  have HP := Lib.hid hpost
  clear hpost hcb hown hbel3
  go_wp2
  go_ret2
  exact ⟨rfl, HP.out⟩
set_option maxHeartbeats 800000 in
set_option maxRecDepth 100000 in
theorem New32 (key : List UInt8) (w : World) (h : key.length = 32) : Calls Tryz.prog 91 #[.string (B key)] w fun e w' => e = .returned (.tuple #[.pointer (some ⟨w.heap.size, 0, none⟩), .int .i64 0]) ∧ CipherAt w' w.heap.size 14 (wordsL subT key 8 60) ∧ Below w.heap.size w w' := by
  have HT := Lib.hid tables_any
  go_enter Tryz.func91, Tryz.ntmps91
  go_wp2_with fail
  rw [show Tryz.zeroCells143.setIfInBounds 0 (.int .i64 14) = ciph 14 (.slice none 0 0) (zeros 256) (zeros 256) by kernel_rfl]
  refine Calls.ext (HT.out _) fun u => ?_
  clear HT
  generalize hcell : ciph 14 (.slice none 0 0) (zeros 256) (zeros 256) = C at *
  have HC := Lib.hid hcell
  clear hcell
  generalize hs : nums .u8 subT = S at *
  generalize hb : nums .u8 backT = Bk at *
  have HS := Lib.hid hs
  have HB := Lib.hid hb
  clear hs hb
  go_wp2_with (with_reducible refine stop_store (t := 141) rfl ?_)
  refine Lib.hid ?_
  have hS := HS.out
  have hB := HB.out
  have hC := HC.out
  have hz := zeros_length 256
  have hC0 : C.size = 514 := by rw [← hC, ciph_size, hz]
  have hS0 : S.size = 256 := by rw [← hS, nums_size, subT_length]
  have hB0 : Bk.size = 256 := by rw [← hB, nums_size, backT_length]
  have hheap : (ext (w.alloc (.cells C 143)) u).heap[w.heap.size]? = some (.cells C 143 (0, 0)) := heap_ext (heap_alloc_last w _)
  have hbel : Below w.heap.size w (ext (w.alloc (.cells C 143)) u) := by ((repeat' (with_reducible first | exact Below.refl _ _ | assumption | refine Below.drew ?_ | refine below_drewN ?_ _ | refine Below.setCell ?_ ?_ _ | refine Below.alloc ?_ ?_ _ | refine Below.ext ?_ ?_ _ | refine Below.trans ?_ (Below.mono ‹_› ?_))) <;> first | omega | (simp; done) | (simp; omega))
  have hsz : w.heap.size < (ext (w.alloc (.cells C 143)) u).heap.size := by simp; omega
  generalize ext (w.alloc (.cells C 143)) u = W at *
  refine wpList_store_part rfl rfl 141 _ _ rfl w.heap.size 2 S C 143 rfl rfl hheap (by omega) (by rw [hS0]; kernel_rfl) (by rw [← hS]; exact nums_oneCell _ _) ?_
  have hh1 := setCells_heap w.heap.size 143 (0, 0) S.toList 2 W C hheap
  rw [← hS, ← hC, over_sub _ _ _ _ _ (by rw [subT_length, hz])] at hh1
  have hbel1 := setCells_below (Nat.le_refl _) S.toList 2 hbel
  have hsz1 : w.heap.size < (W.setCells w.heap.size 2 S.toList).heap.size := by rw [setCells_size]; exact hsz
  rw [hS] at hh1
  generalize W.setCells w.heap.size 2 S.toList = W1 at *
  clear hheap hbel hsz W
  go_wp2_with (with_reducible refine stop_store (t := 141) rfl ?_)
  refine Lib.hid ?_
  refine wpList_store_part rfl rfl 141 _ _ rfl w.heap.size 258 Bk (ciph 14 (.slice none 0 0) subT (zeros 256)) 143 rfl rfl hh1 (by rw [ciph_size, subT_length, hz]; omega) (by rw [hB0]; kernel_rfl) (by rw [← hB]; exact nums_oneCell _ _) ?_
  have hh2 := setCells_heap w.heap.size 143 (0, 0) Bk.toList 258 W1 _ hh1
  rw [← hB, over_back _ _ _ _ _ subT_length (by rw [backT_length, hz])] at hh2
  have hbel2 := setCells_below (Nat.le_refl _) Bk.toList 258 hbel1
  have hsz2 : w.heap.size < (W1.setCells w.heap.size 258 Bk.toList).heap.size := by rw [setCells_size]; exact hsz1
  rw [hB] at hh2
  generalize W1.setCells w.heap.size 258 Bk.toList = W2 at *
  clear hh1 hbel1 hsz1 W1
  have hexp := expand8 subT backT key w.heap.size W2 h subT_bytes subT_length backT_length hh2
  have HEXP := Lib.hid hexp
  have HBEL := Lib.hid hbel2
  clear hexp hh2 hbel2 hS hB hC hS0 hB0 hC0
  go_wp2_with fail
  refine Calls.mono HEXP.out ?_
  rintro _ W3 ⟨rfl, v, hcb, hown, hbel3⟩
  have hpost : CipherAt W3 w.heap.size 14 (wordsL subT key 8 60) ∧ Below w.heap.size w W3 := by
    refine ⟨?_, HBEL.out.trans hbel3⟩
    obtain ⟨g, cap, rfl, _, hg⟩ := hown.form (by omega)
    refine ⟨g, cap, backT, hcb, backT_length, hg, fun x hx => ?_⟩
    rw [hown.cellAt x hx]
    simp [vals, List.getD, wordsL_length, show x < 60 * 4 by omega]
  have HP := Lib.hid hpost
  clear hpost hcb hown hbel3
  go_wp2
  go_ret2
  exact ⟨rfl, HP.out⟩
end Go.Proofs.YtlbpodddokhmaaaGreat.Aes
