/-
  The walk over structs by value whose cells are a list that is not opened: where it stops, what loads and stores them, the two results 'a struct, a Boolean'.
  Conditions: none.
-/
import Derived.Test.YtlbpodddokhmaaaDoorArr
import Derived.Test.YtlbpodddokhmaaaDoorSlc
import Derived.Deep.MidRow
namespace Go.Proofs.YtlbpodddokhmaaaDoor
open Go.ChangeShapes Go.WideShapes Go.ChangeAt Go.RowKit
theorem stop_load {P : Program} {ops : Array Oper} {rest : List Oper} {o : Oper} {a : Act} {w : World} {Q : Exit → Act → World → Prop} (tp : TypeId) {x : Operand} (_ : o.op = .load tp x) (h : RowKit.Hid (wpList P ops Q (o :: rest) a w)) : wpList P ops Q (o :: rest) a w := h.out
theorem stop_store {P : Program} {ops : Array Oper} {rest : List Oper} {o : Oper} {a : Act} {w : World} {Q : Exit → Act → World → Prop} (tp : TypeId) {x y : Operand} (_ : o.op = .store tp x y) (h : RowKit.Hid (wpList P ops Q (o :: rest) a w)) : wpList P ops Q (o :: rest) a w := h.out
/-- A struct by value, read out of a row's middle. -/
theorem load_mid {P : Program} {ops : Array Oper} {rest : List Oper} {o : Oper} {a : Act} {w : World} {Q : Exit → Act → World → Prop} (ty : TypeId) (x : Operand) (ho : o.op = .load ty x) (hgd : o.guard = none) (dst : Option Tmp) (hdst : o.dst = dst)
    (b f : Nat) (hx : a.eval x = .pointer (some ⟨b, f, none⟩)) (c : Array Value) (hc : w.rangeAt b f c.toList) (d : TypeDesc) (hu : P.underlying ty = some d) (hd : d.isRow = true) (hi : (P.info? ty).map (·.size) = some c.size)
    (h : wpList P ops Q rest (a.put dst (.agg c)) w) : RowKit.Hid (wpList P ops Q (o :: rest) a w) :=
  Lib.hid (wpList_load_mid hgd ty x ho b f hx c.toList d hc hu hd (by simpa using hi) (by subst hdst; simpa using h))
/-- A struct by value, laid into a block. -/
theorem store_row {P : Program} {ops : Array Oper} {rest : List Oper} {o : Oper} {a : Act} {w : World} {Q : Exit → Act → World → Prop} (ty : TypeId) (x y : Operand) (ho : o.op = .store ty x y) (hgd : o.guard = none) (hd : o.dst = none)
    (g : Nat) (c : Array Value) (hx : a.eval x = .pointer (some ⟨g, 0, none⟩)) (hy : a.eval y = .agg c) (t : TypeId) (old : Array Value) (hg : w.heap[g]? = some (.cells old t (0, 0))) (hi : (P.info? ty).map (·.size) = some c.size)
    (hold : old.size = c.size) (h1 : c.all (·.oneCell') = true) (h : wpList P ops Q rest a (w.setRow g c)) : RowKit.Hid (wpList P ops Q (o :: rest) a w) :=
  Lib.hid (wpList_store_rowTo hgd ty x y ho hd g c hx hy t old hg hi hold h1 h)
theorem rangeAt_row {w : World} {b : Nat} {c : Array Value} {t : TypeId} (h : w.heap[b]? = some (.cells c t (0, 0))) : w.rangeAt b 0 c.toList := fun j v hv => by
  rw [Nat.zero_add, cell_of_row w b j c t (0, 0) h]
  simpa using hv
theorem rangeAt_below {B0 : Nat} {w w' : World} {b o : Nat} {cs : List Value} (h : w.rangeAt b o cs) (hb : Below B0 w w') (hl : b < B0) : w'.rangeAt b o cs := fun j v hv => by
  rw [hb.cell (p := ⟨b, o + j, none⟩) hl]; exact h j v hv
theorem results_row_tmp {P : Program} {fn : Func} {p q : Tmp} {ty : TypeId} (h : fn.results = #[.cell p ty, .tmp q]) (tmps : Array Value) (w : World) (g : Nat) (t : TypeId) (cs : Array Value) (fr : Nat × Nat) (d : TypeDesc) (v : Value)
    (hp : tmps.getD p undef = .pointer (some ⟨g, 0, none⟩)) (hq : tmps.getD q undef = v) (hg : w.heap[g]? = some (.cells cs t fr))
    (hu : P.underlying ty = some d) (hd : (match d with | .struct _ | .array _ _ => true | _ => false) = true) (hi : (P.info? ty).map (·.size) = some cs.size) :
    (results fn tmps).run P w = .ok (.tuple #[.agg cs, v]) w := by
  have hp' : tmps[p]?.getD undef = .pointer (some ⟨g, 0, none⟩) := by simpa using hp
  have hq' : tmps[q]?.getD undef = v := by simpa using hq
  simp [results, h, hp', hq', asAddr, run_loadVar_row w g t ty cs fr d hg hu hd hi]
theorem post_row_tmp {P : Program} {fn : Func} {R : Ending → World → Prop} {a : Act} {W : World} {p q : Tmp} {ty : TypeId} (n : Nat) (h : fn.results = #[.cell p ty, .tmp q]) (t : TypeId) (c : Array Value) (d : TypeDesc) (v : Value)
    (hp : a.tmps.getD p undef = .pointer (some ⟨n, 0, none⟩)) (hq : a.tmps.getD q undef = v) (hg : W.heap[n]? = some (.cells c t (0, 0))) (hu : P.underlying ty = some d) (hd : (match d with | .struct _ | .array _ _ => true | _ => false) = true) (hi : (P.info? ty).map (·.size) = some c.size)
    (hdef : a.defers = []) (hR : R (.returned (.tuple #[.agg c, v])) W) : bodyPost P fn R .ret a W :=
  bodyPost_ret (v := .tuple #[.agg c, v]) (results_row_tmp h _ _ n t c (0, 0) d v hp hq hg hu hd hi) hdef hR
theorem heap_setRow_same {w : World} {g : Nat} {c c' : Array Value} {t : TypeId} {fr : Nat × Nat} (h : w.heap[g]? = some (.cells c t fr)) : (w.setRow g c').heap[g]? = some (.cells c' t fr) := by
  simp only [World.setRow, Array.getElem?_modify, if_pos rfl, h, Option.map_some]
  rfl
theorem heap_setRow_other {w : World} {g k : Nat} {c' : Array Value} (h : g ≠ k) : (w.setRow g c').heap[k]? = w.heap[k]? := by
  simp only [World.setRow, Array.getElem?_modify, if_neg h]
theorem Below.setRow {B0 : Nat} {w w' : World} (h : Below B0 w w') {g : Nat} {c : Array Value} (hg : B0 ≤ g) : Below B0 w (w'.setRow g c) := by
  obtain ⟨h1, h2, h3, h4, h5⟩ := h
  refine ⟨h1, h2, h3, by simpa [World.setRow] using h4, fun k hk => ?_⟩
  rw [heap_setRow_other (by omega)]
  exact h5 k hk
theorem setRow_size (w : World) (g : Nat) (c : Array Value) : (w.setRow g c).heap.size = w.heap.size := by simp [World.setRow]
theorem heap_below {B0 : Nat} {w w' : World} (h : Below B0 w w') {k : Nat} (hk : k < B0) {x : Option Obj} (e : w.heap[k]? = x) : w'.heap[k]? = x := by
  obtain ⟨_, _, _, _, h5⟩ := h
  rw [h5 k hk]; exact e
theorem load_mid_g {P : Program} {ops : Array Oper} {rest : List Oper} {o : Oper} {a : Act} {w : World} {Q : Exit → Act → World → Prop} (ty : TypeId) (x : Operand) (ho : o.op = .load ty x) (hwt : Region.wanted o (yielded ops a.tmps) = true) (dst : Option Tmp) (hdst : o.dst = dst)
    (b f : Nat) (hx : a.eval x = .pointer (some ⟨b, f, none⟩)) (c : Array Value) (hc : w.rangeAt b f c.toList) (d : TypeDesc) (hu : P.underlying ty = some d) (hd : d.isRow = true) (hi : (P.info? ty).map (·.size) = some c.size)
    (h : wpList P ops Q rest (a.put dst (.agg c)) w) : RowKit.Hid (wpList P ops Q (o :: rest) a w) :=
  Lib.hid (wpList_step fun K hK => by
    rw [if_pos hwt]
    exact wp_load_mid ty x ho b f hx c.toList d hc hu hd (by simpa using hi) (hK _ _ (by subst hdst; simpa using h)))
end Go.Proofs.YtlbpodddokhmaaaDoor
