/-
  A world with more blocks behind it: the form 'w.ext u' for the world behind a call that has only made new blocks, the walk's rules for it, and the law for a region that draws its order and whose calls only make new blocks.
  Conditions: none.
-/
import Derived.Test.YtlbpodddokhmaaaGreatStr
import Derived.WalkSmall
import Derived.Deep.QuietTactic
import Derived.BigQuiet
namespace Go.Proofs.YtlbpodddokhmaaaGreat
open Go.ChangeShapes Go.WideShapes Go.ChangeAt Go.RowKit

/-- Blocks behind a world's, and draws made. -/
structure Xt where
  blocks : Array Obj
  draws : Nat
instance : Nonempty Xt := ⟨⟨#[], 0⟩⟩
/-- 'w' with the blocks of u behind it, and with its draws made. -/
def ext (w : World) (u : Xt) : World := { w with heap := w.heap ++ u.blocks, drawn := u.draws }
/-- How many blocks more. -/
def more (u : Xt) : Nat := u.blocks.size
/-- What a new block holds. -/
def newCell (w : World) (u : Xt) (a : Addr) : Option Value := if a.block < w.heap.size then none else (ext w u).cell? a
def newMark (w : World) (u : Xt) (a : Addr) : Bool := (ext w u).frozen? a
def bump (u : Xt) : Xt := ⟨u.blocks, u.draws + 1⟩
def bumpN (u : Xt) (n : Nat) : Xt := ⟨u.blocks, u.draws + n⟩
def comb (u v : Xt) : Xt := ⟨u.blocks ++ v.blocks, v.draws⟩

theorem ext_block (w : World) (u : Xt) (k : Nat) (h : k < w.heap.size) : (ext w u).heap[k]? = w.heap[k]? := by
  simp [ext, Array.getElem?_append, h]
@[go_sem] theorem ext_size (w : World) (u : Xt) : (ext w u).heap.size = w.heap.size + more u := by simp [ext, more]
theorem ext_below (w : World) (u : Xt) : Below w.heap.size w (ext w u) :=
  ⟨rfl, rfl, rfl, by rw [ext_size]; omega, fun k hk => ext_block w u k hk⟩
theorem ext_of_below {w w' : World} (h : Below w.heap.size w w') : ∃ u, w' = ext w u := by
  obtain ⟨h1, h2, h3, h4, h5⟩ := h
  refine ⟨⟨w'.heap.extract w.heap.size w'.heap.size, w'.drawn⟩, ?_⟩
  obtain ⟨heap', tape', drawn', os', output'⟩ := w'
  simp only at h1 h2 h3 h4 h5 ⊢
  subst h1 h2 h3
  simp only [ext, World.mk.injEq, and_true]
  apply Array.ext_getElem?
  intro i
  rw [Array.getElem?_append]
  by_cases hi : i < w.heap.size
  · rw [if_pos hi]; exact h5 i hi
  · rw [if_neg hi]
    simp [Array.getElem?_extract]
    by_cases hj : i < heap'.size
    · rw [if_pos (by omega), show w.heap.size + (i - w.heap.size) = i by omega]
    · rw [if_neg (by omega)]
      simp; omega
theorem Below.ext {B : Nat} {a w : World} (h : Below B a w) (hB : B ≤ w.heap.size) (u : Xt) : Below B a (ext w u) := h.trans ((ext_below w u).mono hB)
@[go_sem] theorem cell?_ext (w : World) (u : Xt) (a : Addr) : (ext w u).cell? a = (w.cell? a).or (newCell w u a) := by
  unfold newCell
  by_cases h : a.block < w.heap.size
  · rw [if_pos h, Option.or_none]
    exact (ext_below w u).cell h
  · have e : w.cell? a = none := by
      unfold World.cell?
      rw [Array.getElem?_eq_none (by omega)]
    rw [if_neg h, e, Option.none_or]
@[go_sem] theorem frozen?_ext (w : World) (u : Xt) (a : Addr) (h : a.block < w.heap.size) : (ext w u).frozen? a = w.frozen? a := (ext_below w u).frozen h
@[go_sem] theorem drew_ext (w : World) (u : Xt) : (ext w u).drew = ext w (bump u) := rfl
@[go_sem] theorem drewN_ext (w : World) (u : Xt) (n : Nat) : (ext w u).drewN n = ext w (bumpN u n) := rfl
@[go_sem] theorem ext_drew (w : World) (u : Xt) : ext w.drew u = ext w u := rfl
@[go_sem] theorem ext_drewN (w : World) (u : Xt) (n : Nat) : ext (w.drewN n) u = ext w u := rfl
@[go_sem] theorem ext_ext (w : World) (u v : Xt) : ext (ext w u) v = ext w (comb u v) := by
  simp [ext, comb, Array.append_assoc]
@[go_sem] theorem setCell_ext (w : World) (u : Xt) (b o : Nat) (v : Value) (h : b < w.heap.size) : (ext w u).setCell ⟨b, o, none⟩ v = ext (w.setCell ⟨b, o, none⟩ v) u := by
  simp only [World.setCell, ext]
  congr 1
  apply Array.ext_getElem?
  intro i
  simp only [Array.getElem?_modify, Array.getElem?_append, Array.size_modify]
  by_cases hb : b = i
  · subst hb
    simp [h]
  · by_cases hi : i < w.heap.size
    · simp [hb, hi]
    · simp [hb, hi]
@[go_sem] theorem more_bump (u : Xt) : more (bump u) = more u := rfl
@[go_sem] theorem more_bumpN (u : Xt) (n : Nat) : more (bumpN u n) = more u := rfl
/-- 'a' is a later number than 'b', and within the new blocks. -/
def Late (k a b : Nat) (u : Xt) : Prop := b ≤ a ∧ a < b + more u + k
@[go_sem high] theorem lt_more (a b : Nat) (u : Xt) : (a < b + more u) = (a < b ∨ Late 0 a b u) := by
  unfold Late
  exact propext (by omega)
@[go_sem high] theorem le_more (a b : Nat) (u : Xt) : (a ≤ b + more u) = (a < b ∨ Late 1 a b u) := by
  unfold Late
  exact propext (by omega)
@[go_sem high] theorem lt_more1 (a b : Nat) (u : Xt) : (a < b + more u + 1) = (a < b ∨ Late 1 a b u) := by
  unfold Late
  exact propext (by omega)
@[go_sem high] theorem ne_more1 {a b : Nat} (u : Xt) (h : a < b) : (a = b + more u + 1) = False := eq_false (by omega)
@[go_sem high] theorem lt_more2 (a b : Nat) (u : Xt) : (a < b + more u + 1 + 1) = (a < b ∨ Late 2 a b u) := by
  unfold Late
  exact propext (by omega)
@[go_sem high] theorem ne_more2 {a b : Nat} (u : Xt) (h : a < b) : (a = b + more u + 1 + 1) = False := eq_false (by omega)
@[go_sem high] theorem lt_more3 (a b : Nat) (u : Xt) : (a < b + more u + 1 + 1 + 1) = (a < b ∨ Late 3 a b u) := by
  unfold Late
  exact propext (by omega)
@[go_sem high] theorem ne_more3 {a b : Nat} (u : Xt) (h : a < b) : (a = b + more u + 1 + 1 + 1) = False := eq_false (by omega)
@[go_sem high] theorem lt_more4 (a b : Nat) (u : Xt) : (a < b + more u + 1 + 1 + 1 + 1) = (a < b ∨ Late 4 a b u) := by
  unfold Late
  exact propext (by omega)
@[go_sem high] theorem ne_more4 {a b : Nat} (u : Xt) (h : a < b) : (a = b + more u + 1 + 1 + 1 + 1) = False := eq_false (by omega)
@[go_sem high] theorem lt_more5 (a b : Nat) (u : Xt) : (a < b + more u + 1 + 1 + 1 + 1 + 1) = (a < b ∨ Late 5 a b u) := by
  unfold Late
  exact propext (by omega)
@[go_sem high] theorem ne_more5 {a b : Nat} (u : Xt) (h : a < b) : (a = b + more u + 1 + 1 + 1 + 1 + 1) = False := eq_false (by omega)
@[go_sem high] theorem lt_more6 (a b : Nat) (u : Xt) : (a < b + more u + 1 + 1 + 1 + 1 + 1 + 1) = (a < b ∨ Late 6 a b u) := by
  unfold Late
  exact propext (by omega)
@[go_sem high] theorem ne_more6 {a b : Nat} (u : Xt) (h : a < b) : (a = b + more u + 1 + 1 + 1 + 1 + 1 + 1) = False := eq_false (by omega)
@[go_sem high] theorem lt_more7 (a b : Nat) (u : Xt) : (a < b + more u + 1 + 1 + 1 + 1 + 1 + 1 + 1) = (a < b ∨ Late 7 a b u) := by
  unfold Late
  exact propext (by omega)
@[go_sem high] theorem ne_more7 {a b : Nat} (u : Xt) (h : a < b) : (a = b + more u + 1 + 1 + 1 + 1 + 1 + 1 + 1) = False := eq_false (by omega)
@[go_sem high] theorem lt_more8 (a b : Nat) (u : Xt) : (a < b + more u + 1 + 1 + 1 + 1 + 1 + 1 + 1 + 1) = (a < b ∨ Late 8 a b u) := by
  unfold Late
  exact propext (by omega)
@[go_sem high] theorem ne_more8 {a b : Nat} (u : Xt) (h : a < b) : (a = b + more u + 1 + 1 + 1 + 1 + 1 + 1 + 1 + 1) = False := eq_false (by omega)
@[go_sem] theorem ne_more {a b : Nat} (u : Xt) (h : a < b) : (a = b + more u) = False := eq_false (by omega)
@[go_sem] theorem ne_more' {a b : Nat} (u : Xt) (h : a < b) : (b + more u = a) = False := eq_false (by omega)
attribute [go_sem] Option.some_or Option.none_or
attribute [simp] ext_size more_bump more_bumpN

/-- A contract that ends in 'Below', met so that the world behind it is written out. -/
theorem Calls.ext {P : Program} {f : FuncId} {args : Array Value} {w : World} {v : Value} {R : Ending → World → Prop}
    (h : Calls P f args w fun e w' => e = .returned v ∧ Below w.heap.size w w') (hR : ∀ u, R (.returned v) (ext w u)) : Calls P f args w R :=
  h.mono fun e w' ⟨he, hb⟩ => by
    obtain ⟨u, rfl⟩ := ext_of_below hb
    subst he
    exact hR u
/-- A contract in a region: the class of worlds is kept. -/
theorem Calls.ext_of {P : Program} {f : FuncId} {args : Array Value} {w : World} {u : Xt} {v : Value}
    (h : Calls P f args (Proofs.YtlbpodddokhmaaaGreat.ext w u) fun e w' => e = .returned v ∧ Below (Proofs.YtlbpodddokhmaaaGreat.ext w u).heap.size (Proofs.YtlbpodddokhmaaaGreat.ext w u) w') : Calls P f args (Proofs.YtlbpodddokhmaaaGreat.ext w u) fun e w'' => e = .returned v ∧ ∃ u', w'' = Proofs.YtlbpodddokhmaaaGreat.ext w u' :=
  h.mono fun e w' ⟨he, hb⟩ => by
    obtain ⟨u', rfl⟩ := ext_of_below hb
    exact ⟨he, _, ext_ext _ _ _⟩
theorem comb_comb (u a b : Xt) : comb (comb u a) b = comb u (comb a b) := by simp [comb, Array.append_assoc]
/-- The same, where the region began in a world that was already written so. -/
theorem Calls.ext_of' {P : Program} {f : FuncId} {args : Array Value} {w : World} {u a : Xt} {v : Value}
    (h : Calls P f args (Proofs.YtlbpodddokhmaaaGreat.ext w (comb u a)) fun e w' => e = .returned v ∧ Below (Proofs.YtlbpodddokhmaaaGreat.ext w (comb u a)).heap.size (Proofs.YtlbpodddokhmaaaGreat.ext w (comb u a)) w') : Calls P f args (Proofs.YtlbpodddokhmaaaGreat.ext w (comb u a)) fun e w'' => e = .returned v ∧ ∃ u', w'' = Proofs.YtlbpodddokhmaaaGreat.ext w (comb u u') :=
  h.mono fun e w' ⟨he, hb⟩ => by
    obtain ⟨u', rfl⟩ := ext_of_below hb
    exact ⟨he, comb a u', by rw [ext_ext, comb_comb]⟩
theorem Calls.ext_of_same {P : Program} {f : FuncId} {args : Array Value} {w : World} {u : Xt} {v : Value}
    (h : Calls P f args (Proofs.YtlbpodddokhmaaaGreat.ext w u) fun e w' => e = .returned v ∧ Proofs.YtlbpodddokhmaaaGreat.ext w u = w') : Calls P f args (Proofs.YtlbpodddokhmaaaGreat.ext w u) fun e w'' => e = .returned v ∧ ∃ u', w'' = Proofs.YtlbpodddokhmaaaGreat.ext w u' :=
  h.mono fun _e _w' ⟨he, hb⟩ => ⟨he, u, hb.symm⟩
theorem Calls.ext_of_same' {P : Program} {f : FuncId} {args : Array Value} {w : World} {u a : Xt} {v : Value}
    (h : Calls P f args (Proofs.YtlbpodddokhmaaaGreat.ext w (comb u a)) fun e w' => e = .returned v ∧ Proofs.YtlbpodddokhmaaaGreat.ext w (comb u a) = w') : Calls P f args (Proofs.YtlbpodddokhmaaaGreat.ext w (comb u a)) fun e w'' => e = .returned v ∧ ∃ u', w'' = Proofs.YtlbpodddokhmaaaGreat.ext w (comb u u') :=
  h.mono fun _e _w' ⟨he, hb⟩ => ⟨he, a, hb.symm⟩
/-- A region that draws its order, whose operations only read what was there, and whose calls only make new blocks: one walk, in the order of the text. -/
theorem wp_region_ext_lit {P : Program} {id : Nat} {Q : Exit → Act → World → Prop} {a : Act} {w : World} {l : List Oper} (hm : P.follows .mixedOrders = true) (hB : Region.lexB .any l.toArray = true)
    (h : wpQuiet P l.toArray (fun w' => ∃ u, w' = Proofs.YtlbpodddokhmaaaGreat.ext w u) (fun a' => ∀ w', (∃ u, w' = Proofs.YtlbpodddokhmaaaGreat.ext w u) → Q .normal a' w') l a) : (Code.region id l.toArray true).wp P Q a w :=
  wp_region_quiet (C := fun w' => ∃ u, w' = Proofs.YtlbpodddokhmaaaGreat.ext w u) hm hB ⟨⟨#[], w.drawn + 1⟩, by simp [Proofs.YtlbpodddokhmaaaGreat.ext]⟩ (by simpa using h)
end Go.Proofs.YtlbpodddokhmaaaGreat
