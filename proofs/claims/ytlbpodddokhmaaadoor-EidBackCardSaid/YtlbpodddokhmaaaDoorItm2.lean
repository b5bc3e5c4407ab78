/-
  The walks of the reference for items: Deep, Count, Few; what an item's measures are.
  Conditions: none.
-/
import Derived.Test.YtlbpodddokhmaaaDoorItm
namespace Go.Proofs.YtlbpodddokhmaaaDoor.Itm
open Go.ChangeShapes Go.WideShapes Go.ChangeAt Go.RowKit
def deepB : Nat → Tr → Nat
  | 0, _ => 1
  | m + 1, t => t.l.foldl (fun n x => max n (deepB m x)) 0 + 1
theorem fold_le {f : Tr → Nat} {b : Nat} (hf : ∀ x, f x ≤ b) : ∀ (l : List Tr) (n : Nat), n ≤ b → l.foldl (fun n x => max n (f x)) n ≤ b
  | [], n, h => h
  | x :: l, n, h => by
    rw [List.foldl_cons]
    exact fold_le hf l _ (by have := hf x; omega)
theorem deepB_le : ∀ m t, deepB m t ≤ m + 1
  | 0, _ => Nat.le_refl _
  | m + 1, t => by
    unfold deepB
    have := fold_le (deepB_le m) t.l 0 (by omega)
    omega
theorem fold_take {f : Tr → Nat} (l : List Tr) (i : Nat) (x : Tr) (h : l[i]? = some x) : (l.take (i + 1)).foldl (fun n x => max n (f x)) 0 = max ((l.take i).foldl (fun n x => max n (f x)) 0) (f x) := by
  rw [List.take_add_one, h, List.foldl_append]
  rfl
theorem infoI : (Tryd.prog.info? 33).map (·.size) = some 5 := by kernel_rfl
/-- What is at hand of an item's box. -/
theorem box_item {w : World} {t : Tr} {cs : List Value} (h : TAt w t cs) : ∃ (a : Option Addr) (c : Nat) (C : Nat → List Value), cs = [.int .i64 t.k, .int .u64 t.n, .string (B t.s), .slice a t.l.length c, .bool t.o] ∧ t.n < W64 ∧ t.s.length ≤ R47 ∧ t.l.length ≤ R47 ∧
    (∀ i x, t.l[i]? = some x → ∃ b f, a = some ⟨b, f, none⟩ ∧ b < w.heap.size ∧ w.rangeAt b (f + i * 5) (C i) ∧ TAt w x (C i) ∧ (C i).length = 5) := by
  obtain ⟨a, c, C, rfl, hn, hs, hl, hat, hel⟩ := h.form
  refine ⟨a, c, C, rfl, hn, hs, hl, fun i x hx => ?_⟩
  obtain ⟨b, f, hb, hbl, hr⟩ := hat i (List.getElem?_eq_some_iff.1 hx).1
  refine ⟨b, f, hb, hbl, hr, hel i x hx, ?_⟩
  obtain ⟨_, _, _, hc, _⟩ := (hel i x hx).form
  rw [hc]; rfl
mutual
/-- How many items and bytes. -/
def szT : Tr → Nat
  | .mk _ _ s l _ => 1 + s.length + szL l
def szL : List Tr → Nat
  | [] => 0
  | t :: ts => szT t + szL ts
end
theorem szL_append : ∀ a b, szL (a ++ b) = szL a + szL b
  | [], b => by simp [szL]
  | x :: a, b => by rw [List.cons_append, szL, szL, szL_append a b]; omega
theorem szL_take {l : List Tr} {i : Nat} {x : Tr} (h : l[i]? = some x) : szL (l.take (i + 1)) = szL (l.take i) + szT x := by
  rw [List.take_add_one, h, szL_append]
  simp [szL]
def CountP (m : Nat) (t : Tr) (e : Ending) : Prop := ∃ c : Nat, e = .returned (.int .i64 c) ∧ (c ≤ m → c = szT t) ∧ c ≤ 140737488355329 + m
end Go.Proofs.YtlbpodddokhmaaaDoor.Itm
