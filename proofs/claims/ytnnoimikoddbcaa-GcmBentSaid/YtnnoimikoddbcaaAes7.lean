/-
  AES: appending a word, a state; a cipher's cells.
  Conditions: bytes.
-/
import Derived.Test.YtnnoimikoddbcaaAes6
import Derived.OwnWalk
import Derived.Deep.AppendLies
import Derived.Laws.Cover3
namespace Go.Proofs.Ytnnoimikoddbcaa.Aes
open Go.ChangeShapes Go.WideShapes Go.ChangeAt Go.RowKit Go.Deep Go.Great
/-- A cipher's cells. -/
def ciph (r : Nat) (v : Value) (S K : List Nat) : Array Value := #[.int .i64 r, v] ++ (nums .u8 S ++ nums .u8 K)
theorem rfl_0 (a b : Value) (c : Array Value) : (#[a, b] ++ c)[0]? = some a := by rw [Array.getElem?_append, if_pos (by simp)]; rfl
theorem rfl_1 (a b : Value) (c : Array Value) : (#[a, b] ++ c)[1]? = some b := by rw [Array.getElem?_append, if_pos (by simp)]; rfl
theorem ciph_0 (r : Nat) (v : Value) (S K : List Nat) : (ciph r v S K)[0]? = some (.int .i64 r) := rfl_0 _ _ _
theorem ciph_1 (r : Nat) (v : Value) (S K : List Nat) : (ciph r v S K)[1]? = some v := rfl_1 _ _ _
theorem ciph_sub (r : Nat) (v : Value) (S K : List Nat) {x : Nat} (h : x < S.length) : (ciph r v S K)[2 + x]? = some (.int .u8 ((S.getD x 0 : Nat) : Int)) := by
  rw [ciph, Array.getElem?_append, if_neg (by simp)]
  rw [show 2 + x - (#[Value.int .i64 (r : Int), v]).size = x by simp, Array.getElem?_append, if_pos (by rw [nums_size]; exact h), nums_getD .u8 h]
theorem info4 : (Try.prog.info? 93).map (fun i => (i.zero, i.size, i.bytes)) = some (some (.agg (nums .u8 [0, 0, 0, 0])), 4, 4) := by kernel_rfl
/-- The values of a list of bytes. -/
def vals (l : List Nat) : List Value := l.map fun n => Value.int .u8 ((n : Nat) : Int)
theorem owns_mono {w : World} {base base' : Nat} {e : TypeId} {size : Nat} {v : Value} {n : Nat} {xs : List Value} (hb : base' ≤ base) (h : w.ownsRow base e size v n xs) : w.ownsRow base' e size v n xs := by
  obtain ⟨h1, h2⟩ := h
  refine ⟨h1, ?_⟩
  rcases h2 with h2 | ⟨g, cap, cur, a, b, c⟩
  · exact .inl h2
  · exact .inr ⟨g, cap, cur, a, Nat.le_trans hb b, c⟩
theorem vals_nums (l : List Nat) : (nums .u8 l).toList = vals l := by simp [nums, vals]
theorem vals_append (a b : List Nat) : vals (a ++ b) = vals a ++ vals b := by simp [vals]
theorem vals_length (l : List Nat) : (vals l).length = l.length := by simp [vals]
theorem vals_one (l : List Nat) : ∀ u ∈ vals l, u.oneCell' = true := by
  intro u hu
  simp only [vals, List.mem_map] at hu
  obtain ⟨x, -, rfl⟩ := hu
  rfl
theorem vals_get {l : List Nat} {j : Nat} {u : Value} (h : (vals l)[j]? = some u) : (nums .u8 l)[j]? = some u := by
  rw [← vals_nums] at h
  simpa using h
theorem grown_of_below {w w' : World} (h : Below w.heap.size w w') (row : Option Nat) : w.grownBy w' row := by
  obtain ⟨h1, h2, h3, h4, h5⟩ := h
  exact ⟨by simp [*], by simp [*], by simp [*], h4, fun k hk _ => h5 k hk⟩
theorem below_grown {B : Nat} {w wr w' : World} {row : Option Nat} (h : Below B w wr) (hB : B ≤ wr.heap.size) (hg : wr.grownBy w' row) (hrow : ∀ k, row = some k → B ≤ k) : Below B w w' := by
  refine h.trans ⟨by simp [hg.os], by simp [hg.tape], by simp [hg.output], hg.size, fun k hk => hg.block k (by omega) fun e => ?_⟩
  have := hrow k e.symm
  omega
/-- A word is appended. -/
theorem app_word {ops : Array Oper} {rest : List Oper} {o : Oper} {a : Act} {W : World} {Q : Exit → Act → World → Prop} (hgd : o.guard = none) (s x : Operand)
    (ho : o.op = .call { callee := .builtin .append, args := #[s, x], argTypes := #[114, 114] }) (dst : Option Tmp) (hdst : o.dst = dst) (base : Nat) (v : Value) (n : Nat) (xs wd : List Nat) (hs : a.eval s = v)
    (hown : W.ownsRow base 93 4 v n (vals xs)) (b : Nat) (hwl : wd.length = 4) (hx : a.eval x = .slice (some ⟨b, 0, none⟩) 1 1) (t : TypeId) (hb : W.heap[b]? = some (.cells (nums .u8 wd) t (0, 0))) (hn : n ≤ 1000) (hbase : base ≤ W.heap.size)
    (h : ∀ v' w', w'.ownsRow base 93 4 v' (n + 1) (vals (xs ++ wd)) → W.grownBy w' v.ownBlock → wpList Try.prog ops Q rest (a.put dst v') w') : wpList Try.prog ops Q (o :: rest) a W := by
  cases hq : Try.prog.info? 93 with
  | none => have := info4; rw [hq] at this; cases this
  | some inf =>
    have hi := info4
    rw [hq] at hi
    simp only [Option.map_some, Option.some.injEq, Prod.mk.injEq] at hi
    obtain ⟨h1, h2, h3⟩ := hi
    refine wpList_append_own W hgd s x 114 ho base 93 inf (.agg (nums .u8 [0, 0, 0, 0])) 4 4 Try.underlying114 hq h1 h2 h3 rfl (by omega) v n (vals xs) hs hown ⟨b, 0, none⟩ 1 1 (vals wd) hx (by rw [vals_length, hwl]) ?_ (vals_one wd) (by simp only [maxLen]; omega) (by omega) hbase ?_
    · intro j u hu
      have e1 : (⟨b, 0, none⟩ : Addr).add j = ⟨b, j, none⟩ := by simp [Addr.add]; omega
      rw [e1, cell_of_row W b j _ _ _ hb]
      exact vals_get hu
    · intro v' w' h5 h6 _
      rw [hdst]
      exact h v' w' (by rw [vals_append]; exact h5) h6
theorem info16 : (Try.prog.info? 95).map (fun i => (i.zero, i.size, i.bytes)) = some (some (.agg (nums .u8 (zeros 16))), 16, 16) := by kernel_rfl
/-- A state is appended, in a region that draws its order. -/
theorem step_state {ops : Array Oper} {o : Oper} {a : Act} {W : World} {K : Act → World → Prop} {Q : Exit → Act → World → Prop} {E : Prop} (hgd : o.guard = none) (s x : Operand)
    (ho : o.op = .call { callee := .builtin .append, args := #[s, x], argTypes := #[86, 86] }) (dst : Option Tmp) (hdst : o.dst = dst) (base : Nat) (v : Value) (n : Nat) (xs C : List Nat) (hs : a.eval s = v)
    (hown : W.ownsRow base 95 16 v n (vals xs)) (b : Nat) (hwl : C.length = 16) (hx : a.eval x = .slice (some ⟨b, 0, none⟩) 1 1) (t : TypeId) (hb : W.heap[b]? = some (.cells (nums .u8 C) t (0, 0))) (hn : n ≤ 1000) (hbase : base ≤ W.heap.size)
    (h : ∀ g cap w', w'.ownsRow base 95 16 (.slice (some ⟨g, 0, none⟩) (n + 1) cap) (n + 1) (vals (xs ++ C)) → W.grownBy w' v.ownBlock → g < w'.heap.size → K (a.put dst (.slice (some ⟨g, 0, none⟩) (n + 1) cap)) w') : if Region.wanted o (yielded ops a.tmps) = true then Oper.wp Try.prog o a W K Q else E := by
  cases hq : Try.prog.info? 95 with
  | none => have := info16; rw [hq] at this; cases this
  | some inf =>
    have hi := info16
    rw [hq] at hi
    simp only [Option.map_some, Option.some.injEq, Prod.mk.injEq] at hi
    obtain ⟨h1, h2, h3⟩ := hi
    refine step_append_lies W hgd s x 86 ho base 95 inf (.agg (nums .u8 (zeros 16))) 16 16 Try.underlying86 hq h1 h2 h3 rfl (by omega) v n (vals xs) hs hown ⟨b, 0, none⟩ 1 1 (vals C) hx (by rw [vals_length, hwl]) ?_ (vals_one C) (by omega) (by simp only [maxLen]; omega) (by omega) hbase _ rfl ?_
    · intro j u hu
      have e1 : (⟨b, 0, none⟩ : Addr).add j = ⟨b, j, none⟩ := by simp [Addr.add]; omega
      rw [e1, cell_of_row W b j _ _ _ hb]
      exact vals_get hu
    · intro g cap w' h5 h6 _ h7
      rw [hdst]
      exact h g cap w' (by rw [vals_append]; exact h5) h6 h7
theorem take16 (l : List Nat) (k : Nat) (h : k + 16 ≤ l.length) : l.take (k + 16) = l.take k ++ [l.getD k 0, l.getD (k + 1) 0, l.getD (k + 2) 0, l.getD (k + 3) 0, l.getD (k + 4) 0, l.getD (k + 5) 0, l.getD (k + 6) 0, l.getD (k + 7) 0, l.getD (k + 8) 0, l.getD (k + 9) 0, l.getD (k + 10) 0, l.getD (k + 11) 0, l.getD (k + 12) 0, l.getD (k + 13) 0, l.getD (k + 14) 0, l.getD (k + 15) 0] := by
  rw [List.take_add]
  congr 1
  apply list_ext (by simp; omega)
  intro i hi
  have hi : i < 16 := by simp at hi; omega
  have e : ((l.drop k).take 16).getD i 0 = l.getD (k + i) 0 := by
    simp [List.getD, hi]
  rw [e]
  match i, hi with
  | 0, _ => rfl
  | 1, _ => rfl
  | 2, _ => rfl
  | 3, _ => rfl
  | 4, _ => rfl
  | 5, _ => rfl
  | 6, _ => rfl
  | 7, _ => rfl
  | 8, _ => rfl
  | 9, _ => rfl
  | 10, _ => rfl
  | 11, _ => rfl
  | 12, _ => rfl
  | 13, _ => rfl
  | 14, _ => rfl
  | 15, _ => rfl
  | i + 16, h => exact absurd h (by omega)
theorem cell_grown {w w' : World} {row : Option Nat} (hg : w.grownBy w' row) {a : Addr} (ha : a.block < w.heap.size) (hne : some a.block ≠ row) : w'.cell? a = w.cell? a := World.cell?_of_block (hg.block a.block ha hne)
theorem cell_of_under {w : World} {o : Obj} {g x : Nat} (h : g < w.heap.size) : (w.alloc o).drew.cell? ⟨g, x, none⟩ = w.cell? ⟨g, x, none⟩ := by
  show (w.alloc o).cell? ⟨g, x, none⟩ = _
  exact World.cell?_alloc_lt w o ⟨g, x, none⟩ h
theorem setCell_block (w : World) (b k o : Nat) (v : Value) (h : ¬ b = k) : (w.setCell ⟨b, o, none⟩ v).heap[k]? = w.heap[k]? := by
  simp [World.setCell, Array.getElem?_modify, h]
theorem setCell_words (w : World) (b r : Nat) (v v2 : Value) (S K : List Nat) (t : TypeId) (h : w.heap[b]? = some (.cells (ciph r v S K) t (0, 0))) : (w.setCell ⟨b, 1, none⟩ v2).heap[b]? = some (.cells (ciph r v2 S K) t (0, 0)) := by
  have e : (ciph r v S K).setIfInBounds 1 v2 = ciph r v2 S K := by
    unfold ciph
    generalize nums .u8 S ++ nums .u8 K = c
    obtain ⟨l⟩ := c
    simp
  simp only [World.setCell, Array.getElem?_modify, if_pos, h, Option.map_some, Option.isSome_none, Bool.false_eq_true, if_false, e]
theorem owns_setCell {w : World} {base : Nat} {e : TypeId} {size : Nat} {v : Value} {n : Nat} {xs : List Value} (h : w.ownsRow base e size v n xs) (b o : Nat) (x : Value) (hb : b < base) : (w.setCell ⟨b, o, none⟩ x).ownsRow base e size v n xs := by
  obtain ⟨h1, h2⟩ := h
  refine ⟨h1, ?_⟩
  rcases h2 with h2 | ⟨g, cap, cur, a, c, d, f⟩
  · exact .inl h2
  · exact .inr ⟨g, cap, cur, a, c, by rw [setCell_block _ _ _ _ _ (by omega)]; exact d, f⟩
theorem nums4 (a b c d : Nat) : #[Value.int .u8 ((a : Nat) : Int), .int .u8 ((b : Nat) : Int), .int .u8 ((c : Nat) : Int), .int .u8 ((d : Nat) : Int)] = nums .u8 [a, b, c, d] := rfl
theorem len4 (l : List Nat) (h : l.length = 4) : ∃ a b c d, l = [a, b, c, d] := by
  match l, h with
  | [a, b, c, d], _ => exact ⟨a, b, c, d, rfl⟩
theorem rowOf_getD (s : List Nat) (i k : Nat) (h : k < 4) : (rowOf s i).getD k 0 = s.getD (i * 4 + k) 0 := by
  match k, h with
  | 0, _ => rfl
  | 1, _ => rfl
  | 2, _ => rfl
  | 3, _ => rfl
theorem tabAt_below {w w' : World} {cb off : Nat} {T : List Nat} (h : Below w.heap.size w w') (hlt : cb < w.heap.size) (hT : TabAt w cb off T) : TabAt w' cb off T :=
  ⟨Nat.lt_of_lt_of_le hlt h.size, fun x hx => by rw [h.cell (p := ⟨cb, off + x, none⟩) hlt]; exact hT.2 x hx⟩
end Go.Proofs.Ytnnoimikoddbcaa.Aes
