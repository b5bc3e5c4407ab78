/-
  A slice of bytes that began as a string's copy and grows by one byte at a time.
  Conditions: none.
-/
import Derived.Test.YtpgadpnaekhiaaaDoorShaG
import Derived.Deep.AppendSrc
namespace Go.Proofs.YtpgadpnaekhiaaaDoor
open Go.ChangeShapes Go.WideShapes Go.ChangeAt Go.RowKit Go.Deep
/-- The slice v holds the bytes l, in a block from base on. -/
def BufAt (w : World) (base : Nat) (v : Value) (l : List Nat) : Prop :=
  ∃ g cap, v = .slice (some ⟨g, 0, none⟩) l.length cap ∧ base ≤ g ∧ g < w.heap.size ∧ l.length ≤ cap ∧ (∀ j, j < l.length → w.cell? ⟨g, j, none⟩ = some (.int .u8 ((l.getD j 0 : Nat) : Int))) ∧
    ∀ j, j < cap → (w.cell? ⟨g, j, none⟩).isSome = true ∧ w.frozen? ⟨g, j, none⟩ = false
theorem BufAt.below {w w' : World} {base : Nat} {v : Value} {l : List Nat} (h : BufAt w base v l) (hb : Below w.heap.size w w') : BufAt w' base v l := by
  obtain ⟨g, cap, h1, h2, h3, h4, h5, h6⟩ := h
  have e1 := fun j => hb.cell (p := ⟨g, j, none⟩) h3
  have e2 := fun j => hb.frozen (p := ⟨g, j, none⟩) h3
  exact ⟨g, cap, h1, h2, Nat.lt_of_lt_of_le h3 hb.size, h4, fun j hj => by rw [e1]; exact h5 j hj, fun j hj => by rw [e1, e2]; exact h6 j hj⟩
theorem BufAt.alloc {w : World} {base : Nat} {v : Value} {l : List Nat} (h : BufAt w base v l) (o : Obj) : BufAt (w.alloc o) base v l :=
  h.below ((Below.refl _ _).alloc (Nat.le_refl _) _)
/-- A string's copy. -/
theorem buf_conv {P : Program} (w : World) (src dst e : TypeId) (x : List UInt8) (hs : P.underlying src = some .string) (hd : P.underlying dst = some (.slice e)) (he : P.underlying e = some (.int .u8)) :
    ∃ cap w', (convert src dst (.string (B x))).run P w = .ok (.slice (some ⟨w.heap.size, 0, none⟩) x.length cap) w' ∧ Below w.heap.size w w' ∧ BufAt w' w.heap.size (.slice (some ⟨w.heap.size, 0, none⟩) x.length cap) (x.map UInt8.toNat) := by
  refine ⟨grownCap w (B x).size 0 e, Lib.bytesWorld w e (B x), ?_, ⟨rfl, rfl, rfl, ?_, fun k hk => Lib.bytesWorld_at_old w e (B x) k hk⟩, w.heap.size, grownCap w (B x).size 0 e, ?_, Nat.le_refl _, ?_, ?_, ?_, ?_⟩
  · rw [Lib.run_convert_string_bytes w src dst e (B x) hs hd he, B_size]
  · rw [Lib.bytesWorld_size]; omega
  · rw [List.length_map]
  · rw [Lib.bytesWorld_size]; omega
  · rw [List.length_map, B_size]; exact (grownCap_ge w x.length 0 e)
  · intro i h
    rw [List.length_map] at h
    rw [Lib.bytesWorld_cell w e (B x) i (by rw [B_size]; exact h), B_data]
    simp [List.getD, h]
  · intro i h
    have hsz : (Lib.bytesCells w e (B x)).size = grownCap w (B x).size 0 e := by
      have := grownCap_ge w (B x).size 0 e
      simp [Lib.bytesCells]
      omega
    constructor
    · simp [World.cell?, Lib.bytesWorld_at_new, hsz, h]
    · simp [World.frozen?, Lib.bytesWorld_at_new, hsz]
      omega
theorem infoB : (Tryd.prog.info? 5).map (fun i => (i.zero, i.size, i.bytes)) = some (some (.int .u8 0), 1, 1) := by kernel_rfl
set_option maxRecDepth 100000 in
theorem run_app_buf {W : World} {base : Nat} {v : Value} {l : List Nat} {y : Nat} (ty : TypeId) (hbuf : BufAt W base v l) (b : Nat) (hb : W.cell? ⟨b, 0, none⟩ = some (.int .u8 ((y : Nat) : Int))) (hn : l.length ≤ 1000000) (w0 : World) (hbel : Below base w0 W) (hbase : base ≤ W.heap.size) :
    ∃ v' w', (Builtin.append_ #[33, 33] ty #[v, .slice (some ⟨b, 0, none⟩) 1 1]).run Tryd.prog W = .ok v' w' ∧ BufAt w' base v' (l ++ [y]) ∧ Below base w0 w' := by
  cases hq : Tryd.prog.info? 5 with
  | none => have := infoB; rw [hq] at this; cases this
  | some inf =>
    have hi := infoB
    rw [hq] at hi
    simp only [Option.map_some, Option.some.injEq, Prod.mk.injEq] at hi
    obtain ⟨hz, hsz, hby⟩ := hi
    obtain ⟨g, cap, rfl, h2, h3, h4, h5, h6⟩ := hbuf
    have hsrc : Src Tryd.prog inf.size 33 (.slice (some ⟨b, 0, none⟩) 1 1) 1 [.int .u8 ((y : Nat) : Int)] W :=
      Src.ofSlice W Tryd.underlying33 _ 1 1 _ (by rw [hsz]; rfl) (fun j u hu => by
        match j, hu with
        | 0, hu =>
          simp only [List.getElem?_cons_zero, Option.some.injEq] at hu
          rw [← hu]
          exact hb
        | j + 1, hu => simp at hu) (by simp [Value.oneCell'])
    by_cases hroom : l.length + 1 ≤ cap
    · refine ⟨_, _, run_append_room_src W _ _ _ 5 inf Tryd.underlying33 hq g 0 l.length cap _ 1 _ hsrc hroom (fun j hj => ?_) (fun j hj => ?_), ?_, ?_⟩
      · rw [hsz]; simp at hj; subst hj; simpa using (h6 l.length (by omega)).1
      · rw [hsz]; simp at hj; subst hj; simpa using (h6 l.length (by omega)).2
      · rw [hsz]
        show BufAt (W.setCell ⟨g, 0 + l.length * 1, none⟩ (.int .u8 ((y : Nat) : Int))) _ _ _
        rw [Nat.zero_add, Nat.mul_one]
        have hc := (h6 l.length (by omega)).1
        obtain ⟨old, hold⟩ := Option.isSome_iff_exists.1 hc
        have hsame : (W.setCell ⟨g, l.length, none⟩ (.int .u8 ((y : Nat) : Int))).cell? ⟨g, l.length, none⟩ = some (.int .u8 ((y : Nat) : Int)) := World.cell?_setCell_same _ _ _ hold
        have hother : ∀ j, j ≠ l.length → (W.setCell ⟨g, l.length, none⟩ (.int .u8 ((y : Nat) : Int))).cell? ⟨g, j, none⟩ = W.cell? ⟨g, j, none⟩ := fun j hj => World.cell?_setCell_other (h := fun h2 => hj (by injection h2 with _ h3 _; exact h3.symm)) ..
        refine ⟨g, cap, by simp, h2, by simpa [World.setCell] using h3, by simpa using hroom, fun j hj => ?_, fun j hj => ?_⟩
        · rw [List.length_append] at hj
          by_cases hjl : j = l.length
          · subst hjl
            rw [hsame]; simp [List.getD]
          · rw [hother j hjl, h5 j (by simp at hj; omega)]
            simp only [List.getD]
            rw [List.getElem?_append_left (by simp at hj; omega)]
        · rw [World.frozen?_setCell]
          refine ⟨?_, (h6 j hj).2⟩
          by_cases hjl : j = l.length
          · subst hjl; rw [hsame]; rfl
          · rw [hother j hjl]; exact (h6 j hj).1
      · exact Below.setCell hbel (show base ≤ (⟨g, _, none⟩ : Addr).block from h2) _
    · have hold : (Builtin.firstCells inf.size l.length (.slice (some ⟨g, 0, none⟩) l.length cap)).run Tryd.prog W.drew = .ok ((l.map fun (n : Nat) => Value.int .u8 (n : Int))).toArray W.drew :=
        run_firstCells_some W.drew inf.size l.length ⟨g, 0, none⟩ l.length cap (l.map fun (n : Nat) => Value.int .u8 (n : Int)) (by rw [hsz, List.length_map, Nat.mul_one]) (fun j u hu => by
          have hj : j < l.length := by
            have := (List.getElem?_eq_some_iff.1 hu).1
            rw [List.length_map] at this
            exact this
          have e1 : (⟨g, 0, none⟩ : Addr).add j = ⟨g, j, none⟩ := by simp [Addr.add]; omega
          rw [e1]
          show W.cell? ⟨g, j, none⟩ = some u
          rw [h5 j hj, ← hu]
          simp [List.getD, hj])
      have hgr := grownCap_ge W (l.length + 1) cap 5
      refine ⟨_, _, run_append_grow_src W _ _ _ 5 inf (.int .u8 0) Tryd.underlying33 hq hz (some ⟨g, 0, none⟩) l.length cap _ hold _ 1 _ hsrc (by omega) (by omega) (growslice_fits (by omega) (by rw [hby]; omega)), ?_, ?_⟩
      · have hnew : (W.drew.alloc (.cells (((l.map fun (n : Nat) => Value.int .u8 (n : Int)) ++ [Value.int .u8 ((y : Nat) : Int)]).toArray ++ Builtin.zeroCells (Value.int .u8 0).cells (grownCap W (l.length + 1) cap 5 - (l.length + 1))) 5)).heap[W.heap.size]? = some (.cells (((l.map fun (n : Nat) => Value.int .u8 (n : Int)) ++ [Value.int .u8 ((y : Nat) : Int)]).toArray ++ Builtin.zeroCells (Value.int .u8 0).cells (grownCap W (l.length + 1) cap 5 - (l.length + 1))) 5 (0, 0)) := heap_alloc_last W.drew _
        have hcs : (((l.map fun (n : Nat) => Value.int .u8 (n : Int)) ++ [Value.int .u8 ((y : Nat) : Int)]).toArray ++ Builtin.zeroCells (Value.int .u8 0).cells (grownCap W (l.length + 1) cap 5 - (l.length + 1))).size = grownCap W (l.length + 1) cap 5 := by
          simp [size_zeroCells, Value.cells]
          omega
        refine ⟨W.heap.size, grownCap W (l.length + 1) cap 5, by simp, hbase, by simp, by simpa using hgr, fun j hj => ?_, fun j hj => ⟨?_, frozen_of_row _ _ j _ _ hnew⟩⟩
        · rw [cell_of_row _ _ j _ _ _ hnew]
          have hj2 : j < l.length + 1 := by simpa using hj
          rw [Array.getElem?_append_left (by simp; omega)]
          rw [List.getElem?_toArray]
          by_cases hjl : j = l.length
          · subst hjl
            rw [List.getElem?_append_right (by rw [List.length_map]; exact Nat.le_refl _), List.length_map, Nat.sub_self]
            simp [List.getD]
          · rw [List.getElem?_append_left (by rw [List.length_map]; omega)]
            have hj3 : j < l.length := by omega
            simp [List.getD, hj3, List.getElem?_append_left]
        · rw [cell_of_row _ _ j _ _ _ hnew, Array.getElem?_eq_getElem (by rw [hcs]; exact hj)]
          rfl
      · exact (hbel.drew).alloc hbase _
/-- One byte is appended. -/
theorem app_buf {ops : Array Oper} {rest : List Oper} {o : Oper} {a : Act} {W : World} {Q : Exit → Act → World → Prop} (hgd : o.guard = none) (s x : Operand)
    (ho : o.op = .call { callee := .builtin .append, args := #[s, x], argTypes := #[33, 33] }) (dst : Option Tmp) (hdst : o.dst = dst) (base : Nat) (v : Value) (l : List Nat) (y : Nat) (hs : a.eval s = v)
    (hbuf : BufAt W base v l) (b : Nat) (hx : a.eval x = .slice (some ⟨b, 0, none⟩) 1 1) (hb : W.cell? ⟨b, 0, none⟩ = some (.int .u8 ((y : Nat) : Int))) (hn : l.length ≤ 1000000) (w0 : World) (hbel : Below base w0 W) (hbase : base ≤ W.heap.size)
    (h : ∀ v' w', BufAt w' base v' (l ++ [y]) → Below base w0 w' → wpList Tryd.prog ops Q rest (a.put dst v') w') : wpList Tryd.prog ops Q (o :: rest) a W := by
  refine wpList_plain hgd fun K hK' => ?_
  obtain ⟨v', w', hrun, r1, r2⟩ := run_app_buf o.type hbuf b hb hn w0 hbel hbase
  unfold Oper.wp
  simp [execOp, ho, resolve, invoke, builtin, hs, hx, hrun, Result.andThen]
  show K (a.put o.dst v') w'
  rw [hdst]
  exact hK' _ _ (h v' w' r1 r2)
/-- Empty and without an array, or such a slice. -/
def BufO (w : World) (base : Nat) (v : Value) (l : List Nat) : Prop := (v = .slice none 0 0 ∧ l = []) ∨ BufAt w base v l
theorem BufO.below {w w' : World} {base : Nat} {v : Value} {l : List Nat} (h : BufO w base v l) (hb : Below w.heap.size w w') : BufO w' base v l :=
  h.imp id fun h => h.below hb
theorem BufO.alloc {w : World} {base : Nat} {v : Value} {l : List Nat} (h : BufO w base v l) (o : Obj) : BufO (w.alloc o) base v l := h.imp id fun h => h.alloc o
set_option maxRecDepth 100000 in
theorem run_app_nil {W : World} {base : Nat} {y : Nat} (ty : TypeId) (b : Nat) (hb : W.cell? ⟨b, 0, none⟩ = some (.int .u8 ((y : Nat) : Int))) (w0 : World) (hbel : Below base w0 W) (hbase : base ≤ W.heap.size) :
    ∃ v' w', (Builtin.append_ #[33, 33] ty #[.slice none 0 0, .slice (some ⟨b, 0, none⟩) 1 1]).run Tryd.prog W = .ok v' w' ∧ BufAt w' base v' [y] ∧ Below base w0 w' := by
  cases hq : Tryd.prog.info? 5 with
  | none => have := infoB; rw [hq] at this; cases this
  | some inf =>
    have hi := infoB
    rw [hq] at hi
    simp only [Option.map_some, Option.some.injEq, Prod.mk.injEq] at hi
    obtain ⟨hz, hsz, hby⟩ := hi
    have hgr := grownCap_ge W 1 0 5
    have hnew : (W.drew.alloc (.cells (([Value.int .u8 ((y : Nat) : Int)] : List Value).toArray ++ Builtin.zeroCells (Value.int .u8 0).cells (grownCap W 1 0 5 - 1)) 5)).heap[W.heap.size]? = some (.cells (([Value.int .u8 ((y : Nat) : Int)] : List Value).toArray ++ Builtin.zeroCells (Value.int .u8 0).cells (grownCap W 1 0 5 - 1)) 5 (0, 0)) := heap_alloc_last W.drew _
    have hcs : ((([Value.int .u8 ((y : Nat) : Int)] : List Value).toArray ++ Builtin.zeroCells (Value.int .u8 0).cells (grownCap W 1 0 5 - 1))).size = grownCap W 1 0 5 := by
      simp [size_zeroCells, Value.cells]
      omega
    refine ⟨_, _, run_append_nil W _ _ 5 inf (.int .u8 0) Tryd.underlying33 hq hz ⟨b, 0, none⟩ 1 1 [.int .u8 ((y : Nat) : Int)] (by rw [hsz]; rfl) (fun j u hu => ?_) (by omega) (by omega) (by rw [hby]; omega), ?_, (hbel.drew).alloc hbase _⟩
    · match j, hu with
      | 0, hu =>
        simp only [List.getElem?_cons_zero, Option.some.injEq] at hu
        rw [← hu]
        exact hb
      | j + 1, hu => simp at hu
    · refine ⟨W.heap.size, grownCap W 1 0 5, by simp, hbase, by simp, by simpa using hgr, fun j hj => ?_, fun j hj => ⟨?_, frozen_of_row _ _ j _ _ hnew⟩⟩
      · have hj0 : j = 0 := by simp at hj; exact hj
        subst hj0
        rw [cell_of_row _ _ _ _ _ _ hnew, Array.getElem?_append_left (by simp)]
        rfl
      · rw [cell_of_row _ _ j _ _ _ hnew, Array.getElem?_eq_getElem (by rw [hcs]; exact hj)]
        rfl
/-- One byte is appended, to nothing too. -/
theorem app_bufo {ops : Array Oper} {rest : List Oper} {o : Oper} {a : Act} {W : World} {Q : Exit → Act → World → Prop} (hgd : o.guard = none) (s x : Operand)
    (ho : o.op = .call { callee := .builtin .append, args := #[s, x], argTypes := #[33, 33] }) (dst : Option Tmp) (hdst : o.dst = dst) (base : Nat) (v : Value) (l : List Nat) (y : Nat) (hs : a.eval s = v)
    (hbuf : BufO W base v l) (b : Nat) (hx : a.eval x = .slice (some ⟨b, 0, none⟩) 1 1) (hb : W.cell? ⟨b, 0, none⟩ = some (.int .u8 ((y : Nat) : Int))) (hn : l.length ≤ 1000000) (w0 : World) (hbel : Below base w0 W) (hbase : base ≤ W.heap.size)
    (h : ∀ v' w', BufAt w' base v' (l ++ [y]) → Below base w0 w' → wpList Tryd.prog ops Q rest (a.put dst v') w') : wpList Tryd.prog ops Q (o :: rest) a W := by
  rcases hbuf with ⟨hv, hl⟩ | hbuf
  · refine wpList_plain hgd fun K hK' => ?_
    obtain ⟨v', w', hrun, r1, r2⟩ := run_app_nil o.type b hb w0 hbel hbase
    rw [hv] at hs
    unfold Oper.wp
    simp [execOp, ho, resolve, invoke, builtin, hs, hx, hrun, Result.andThen]
    show K (a.put o.dst v') w'
    rw [hdst]
    exact hK' _ _ (h v' w' (by rw [hl]; exact r1) r2)
  · exact app_buf hgd s x ho dst hdst base v l y hs hbuf b hx hb hn w0 hbel hbase h
end Go.Proofs.YtpgadpnaekhiaaaDoor
