/-
  The ideal engine: sign, seal, with what the table holds; the engine's Sign, Seal over it.
  Conditions: an ideal engine; what it may sign and seal.
-/
import Derived.Test.YtlbpodddokhmaaaGreatEng2
namespace Go.Proofs.YtlbpodddokhmaaaGreat.EngX
open Go.Proofs.YtlbpodddokhmaaaGreat.Eng
open Go.ChangeShapes Go.WideShapes Go.ChangeAt Go.RowKit Go.Deep Go.Great
theorem runStore {P : Program} {o : Oper} {a : Act} {w w' : World} (t : TypeId) (x y : Operand) (ho : o.op = .store t x y) (vx vy : Value) (hx : a.eval x = vx) (hy : a.eval y = vy) (hrun : (Instr.storeAt t vx vy).run P w = .ok () w') :
    (execOp a.eval o).run P w = .ok .skip w' := by
  subst hx hy
  unfold execOp
  simp only [ho, Sem.run_bind, Sem.run_pure, hrun, Result.andThen_ok]
theorem wpH_skip {P : Program} {Q : Exit → Act → World → Prop} {o : Oper} {a : Act} {w w' : World} {K : Act → World → Prop} (hdst : o.dst = none) (hrun : (execOp a.eval o).run P w = .ok .skip w') (h : K a w') : o.wp P a w K Q := by
  unfold Oper.wp
  rw [hrun]
  show K (a.put o.dst undef) w'
  rw [hdst]
  exact h
theorem runLoad {P : Program} {o : Oper} {a : Act} {w : World} (t : TypeId) (x : Operand) (ho : o.op = .load t x) (vx v : Value) (hx : a.eval x = vx) (hrun : (Instr.loadAt t vx).run P w = .ok v w) :
    (execOp a.eval o).run P w = .ok (.value v) w := by
  subst hx
  unfold execOp
  simp only [ho, Sem.run_bind, Sem.run_pure, hrun, Result.andThen_ok]
theorem ldSl (W : World) (p : Addr) (v : Value) (h : W.cell? p = some v) : (Instr.loadAt 57 (.pointer (some p))).run Tryz.prog W = .ok v W := by
  go_simp
theorem stSl (W : World) (b : Nat) (v : Value) (old : Value) (h : W.heap[b]? = some (.cells #[old] 59 (0, 0))) (hv : ∃ p l c, v = .slice p l c) : (Instr.storeAt 57 (.pointer (some ⟨b, 0, none⟩)) v).run Tryz.prog W = .ok () (W.setCell ⟨b, 0, none⟩ v) := by
  have hc : W.cell? ⟨b, 0, none⟩ = some old := by rw [cell_of_row _ _ _ _ _ _ h]; rfl
  have hf : W.frozen? ⟨b, 0, none⟩ = false := frozen_of_row W b 0 _ _ h
  obtain ⟨p, l, c, rfl⟩ := hv
  go_simp
/-- All that was there is kept, but for the table's cell and its row. -/
structure Kept (w w' : World) (ib : Nat) (row : Option Nat) : Prop where
  os : w'.os = w.os
  tape : w'.tape = w.tape
  output : w'.output = w.output
  size : w.heap.size ≤ w'.heap.size
  block : ∀ k, k < w.heap.size → k ≠ ib → row ≠ some k → w'.heap[k]? = w.heap[k]?
theorem Kept.below {w w' : World} {ib : Nat} {row : Option Nat} {B : Nat} {w0 : World} (h : Kept w w' ib row) (hb : Below B w0 w) (hB : B ≤ w.heap.size) (hib : B ≤ ib) (hrow : ∀ k, row = some k → B ≤ k) : Below B w0 w' :=
  hb.trans ⟨h.os, h.tape, h.output, h.size, fun k hk => h.block k (by omega) (by omega) fun e => by have := hrow k e; omega⟩
theorem own_below {w w' : World} {base : Nat} {e : TypeId} {size : Nat} {v : Value} {n : Nat} {xs : List Value} (h : w.ownsRow base e size v n xs) (hb : Below w.heap.size w w') : w'.ownsRow base e size v n xs :=
  h.kept (row := none) ⟨hb.os, hb.tape, hb.output, hb.size, fun k hk _ => hb.block k hk⟩ (by
    cases hv : v.ownBlock with
    | none => exact .inl rfl
    | some k => exact .inr (by simp))
theorem own_set {w : World} {base : Nat} {e : TypeId} {size : Nat} {v : Value} {n : Nat} {xs : List Value} (h : w.ownsRow base e size v n xs) (b o : Nat) (x : Value) (hb : b < base) : (w.setCell ⟨b, o, none⟩ x).ownsRow base e size v n xs := by
  obtain ⟨h1, h2⟩ := h
  refine ⟨h1, ?_⟩
  rcases h2 with h2 | ⟨g, cap, cur, a, c, d, f⟩
  · exact .inl h2
  · exact .inr ⟨g, cap, cur, a, c, by rw [setCell_block _ _ _ _ _ (by omega)]; exact d, f⟩
theorem own_form {w : World} {base : Nat} {e : TypeId} {size : Nat} {v : Value} {n : Nat} {xs : List Value} (h : w.ownsRow base e size v n xs) : ∃ p c, v = .slice p n c := by
  rcases h.2 with ⟨rfl, rfl⟩ | ⟨g, cap, cur, rfl, _⟩
  · exact ⟨none, 0, rfl⟩
  · exact ⟨_, _, rfl⟩
/-- An ideal engine's table: its cell, and a row of n entries in a block from base on. -/
def TabAt (w : World) (base ib : Nat) (v : Value) (n : Nat) (xs : List Value) : Prop := w.heap[ib]? = some (.cells #[v] 59 (0, 0)) ∧ w.ownsRow base 203 7 v n xs
theorem TabAt.lt {w : World} {base ib : Nat} {v : Value} {n : Nat} {xs : List Value} (h : TabAt w base ib v n xs) : ∀ k, v.ownBlock = some k → base ≤ k ∧ k < w.heap.size := by
  obtain ⟨_, h⟩ := h
  exact h.lt
theorem TabAt.below {w w' : World} {base ib : Nat} {v : Value} {n : Nat} {xs : List Value} (h : TabAt w base ib v n xs) (hb : Below w.heap.size w w') : TabAt w' base ib v n xs := by
  obtain ⟨h1, h2⟩ := h
  exact ⟨below_heap hb (lt_of_heap h1) h1, own_below h2 hb⟩
theorem new_cells (w : World) (c : Array Value) (t : TypeId) : ∀ j u, c.toList[j]? = some u → (w.alloc (.cells c t)).cell? ((⟨w.heap.size, 0, none⟩ : Addr).add j) = some u := by
  intro j u hu
  have e1 : (⟨w.heap.size, 0, none⟩ : Addr).add j = ⟨w.heap.size, j, none⟩ := by simp [Addr.add]; omega
  rw [e1, cell_of_row _ _ _ _ _ _ (heap_alloc_last w _)]
  simpa using hu
theorem infoE : (Tryz.prog.info? 203).map (fun i => (i.zero, i.size, i.bytes)) = some (some (.agg #[.int .i64 0, .string ⟨#[]⟩, .string ⟨#[]⟩, .string ⟨#[]⟩, .string ⟨#[]⟩, .string ⟨#[]⟩, .string ⟨#[]⟩]), 7, 104) := by kernel_rfl
/-- What an entry more leaves. -/
def OneMore (w w' : World) (base ib : Nat) (v : Value) (n : Nat) (zs : List Value) : Prop := ∃ v', TabAt w' base ib v' (n + 1) zs ∧ Kept w w' ib v.ownBlock ∧ (v'.ownBlock = v.ownBlock ∨ ∃ g, v'.ownBlock = some g ∧ w.heap.size ≤ g)
theorem engine_end {w W2 w3 w4 : World} {base ib n g cap : Nat} {v : Value} {xs ys : List Value} (hv : ∀ k, v.ownBlock = some k → base ≤ k ∧ k < w.heap.size) (hK : Below w.heap.size w W2) (hib4 : w4.heap[ib]? = some (.cells #[v] 59 (0, 0)))
    (hown : w4.ownsRow base 203 7 (.slice (some ⟨g, 0, none⟩) (n + 1) cap) (n + 1) (xs ++ ys)) (h3 : Below W2.heap.size W2 w3) (hg : w3.grownBy w4 v.ownBlock) (hgg : v.ownBlock = some g ∨ g = w3.heap.size) (hib : ib < base) :
    OneMore w (w4.setCell ⟨ib, 0, none⟩ (.slice (some ⟨g, 0, none⟩) (n + 1) cap)) base ib v n (xs ++ ys) := by
  refine ⟨.slice (some ⟨g, 0, none⟩) (n + 1) cap, ⟨?_, own_set hown ib 0 _ hib⟩, ?_, ?_⟩
  · rw [Go.heap_setCell_same w4 ib 0 _ _ _ hib4]
    rfl
  · have hs1 := hK.size
    have hs2 := h3.size
    have hs3 := hg.size
    refine ⟨hg.os.trans (h3.os.trans hK.os), hg.tape.trans (h3.tape.trans hK.tape), hg.output.trans (h3.output.trans hK.output), ?_, fun k hk hki hkr => ?_⟩
    · have : (w4.setCell ⟨ib, 0, none⟩ (.slice (some ⟨g, 0, none⟩) (n + 1) cap)).heap.size = w4.heap.size := by simp [World.setCell]
      omega
    · rw [setCell_block _ _ _ _ _ (Ne.symm hki), hg.block k (by omega) (Ne.symm hkr), h3.block k (by omega), hK.block k hk]
  · rcases hgg with h | h
    · exact .inl h.symm
    · right
      have hs1 := hK.size
      have hs2 := h3.size
      exact ⟨g, rfl, by omega⟩
theorem ldStr (W : World) (p : Addr) (v : Value) (h : W.cell? p = some v) : (Instr.loadAt 9 (.pointer (some p))).run Tryz.prog W = .ok v W := by
  go_simp
theorem one_drew {w w' : World} {base ib n : Nat} {v : Value} {zs : List Value} (h : OneMore w w' base ib v n zs) : OneMore w w'.drew base ib v n zs := by
  obtain ⟨v', ⟨h1, h2⟩, h3, h4⟩ := h
  exact ⟨v', ⟨h1, h2⟩, ⟨h3.os, h3.tape, h3.output, h3.size, h3.block⟩, h4⟩
set_option maxHeartbeats 1600000 in
set_option maxRecDepth 100000 in
theorem isign_any (base ib n sz : Nat) (v : Value) (xs : List Value) (vr : Int) (key t : List UInt8) (w : World) (hT : TabAt w base ib v n xs) (hz : size vr = (sz : Int)) (hn : n ≤ 1000) (hsz : sz ≤ 100) (hb : base ≤ w.heap.size) (hib : ib < base) :
    Calls Tryz.prog 155 #[.pointer (some ⟨ib, 0, none⟩), .int .i64 vr, .string (B key), .string (B t)] w fun e w' => e = .returned (.string (B (freshB (n + 1) sz))) ∧ OneMore w w' base ib v n (xs ++ [.int .i64 vr, .string (B key), .string ⟨#[]⟩, .string ⟨#[]⟩, .string (B t), .string ⟨#[]⟩, .string (B (freshB (n + 1) sz))]) := by
  have hlt := hT.lt
  obtain ⟨hti, hown⟩ := hT
  obtain ⟨p, c, hform⟩ := own_form hown
  have HS := Lib.hid fun W => size_any vr W
  rw [hz] at HS
  have HF := Lib.hid fun W h => fresh_any ib n c sz p W h hn (by omega)
  have hc0 : w.cell? ⟨ib, 0, none⟩ = some (.slice p n c) := by rw [← hform, cell_of_row _ _ _ _ _ _ hti]; rfl
  generalize freshB (n + 1) sz = tag at *
  clear hz
  cases hq : Tryz.prog.info? 203 with
  | none => have := infoE; rw [hq] at this; cases this
  | some inf =>
    have hi := infoE
    rw [hq] at hi
    simp only [Option.map_some, Option.some.injEq, Prod.mk.injEq] at hi
    obtain ⟨hz1, hz2, hz3⟩ := hi
    have HQ := Lib.hid hq
    have HZ1 := Lib.hid hz1
    clear hq hz1
    go_enter Tryz.func155, Tryz.ntmps155
    go_wp2_with fail
    refine (HS.out _).mono ?_
    rintro _ _ ⟨rfl, rfl⟩
    go_wp2_with fail
    refine Calls.below (HF.out _ hc0) fun W1 hW1 => ?_
    go_upto_region 2 with fail
    have hib1 : W1.heap[ib]? = some (.cells #[v] 59 (0, 0)) := below_heap hW1 (lt_of_heap hti) hti
    have hown1 := own_below hown hW1
    have hE0 : w.heap.size ≤ W1.heap.size := hW1.size
    have hS : (W1.alloc (.cells #[.int .i64 vr, .string (B key), .string ⟨#[]⟩, .string ⟨#[]⟩, .string (B t), .string ⟨#[]⟩, .string (B tag)] 203)).heap[W1.heap.size]? = some (.cells #[.int .i64 vr, .string (B key), .string ⟨#[]⟩, .string ⟨#[]⟩, .string (B t), .string ⟨#[]⟩, .string (B tag)] 203 (0, 0)) := heap_alloc_last W1 _
    have hib2 : (W1.alloc (.cells #[.int .i64 vr, .string (B key), .string ⟨#[]⟩, .string ⟨#[]⟩, .string (B t), .string ⟨#[]⟩, .string (B tag)] 203)).heap[ib]? = some (.cells #[v] 59 (0, 0)) := heap_under hib1
    have hown2 := hown1.alloc (.cells #[.int .i64 vr, .string (B key), .string ⟨#[]⟩, .string ⟨#[]⟩, .string (B t), .string ⟨#[]⟩, .string (B tag)] 203)
    have hK2 : Below w.heap.size w (W1.alloc (.cells #[.int .i64 vr, .string (B key), .string ⟨#[]⟩, .string ⟨#[]⟩, .string (B t), .string ⟨#[]⟩, .string (B tag)] 203)) := hW1.alloc hE0 _
    have hvE : v.ownBlock ≠ some W1.heap.size := fun e => by have := (hlt _ e).2; omega
    have hvI : v.ownBlock ≠ some ib := fun e => by have := (hlt _ e).1; omega
    have hib0 := lt_of_heap hti
    generalize W1.alloc (.cells #[.int .i64 vr, .string (B key), .string ⟨#[]⟩, .string ⟨#[]⟩, .string (B t), .string ⟨#[]⟩, .string (B tag)] 203) = W2 at *
    generalize W1.heap.size = E at *
    have hc : W2.drew.cell? ⟨ib, 0, none⟩ = some v := by
      show W2.cell? ⟨ib, 0, none⟩ = some v
      rw [cell_of_row _ _ _ _ _ _ hib2]; rfl
    have hS0 := hS
    replace hS : W2.drew.heap[E]? = some (.cells #[.int .i64 vr, .string (B key), .string ⟨#[]⟩, .string ⟨#[]⟩, .string (B t), .string ⟨#[]⟩, .string (B tag)] 203 (0, 0)) := hS0
    have hq := HQ.out
    have hz1 := HZ1.out
    have hw2 := hK2.size
    clear hW1 hib1 hown1 hti hown hc0 HS HF
    refine wp_region_held (S := fun W => W.heap[E]? = some (.cells #[.int .i64 vr, .string (B key), .string ⟨#[]⟩, .string ⟨#[]⟩, .string (B t), .string ⟨#[]⟩, .string (B tag)] 203 (0, 0))) (by kernel_rfl) ?_
    change wpAnyH _ _ _ _ _ _ _ _ W2.drew
    refine takeH 0 rfl rfl (some 18) rfl (.pointer (some ⟨ib, 0, none⟩)) (by kernel_rfl) (by kernel_rfl) (by kernel_rfl) (fun _ _ _ h => h) (fun _ _ => rfl) hS ?_
    simp only [Act.put, List.setIfInBounds_toArray, List.set_cons_zero, List.set_cons_succ]
    refine takeH 1 rfl rfl (some 19) rfl (.pointer (some ⟨ib, 0, none⟩)) (by kernel_rfl) (by kernel_rfl) (by kernel_rfl) (fun _ _ _ h => h) (fun _ _ => rfl) hS ?_
    simp only [Act.put, List.setIfInBounds_toArray, List.set_cons_zero, List.set_cons_succ]
    refine takeH 2 rfl rfl (some 20) rfl (.pointer (some ⟨ib, 0, none⟩)) (by kernel_rfl) (by kernel_rfl) (by kernel_rfl) (fun _ _ _ h => h) (fun _ _ => by kernel_rfl) hS ?_
    simp only [Act.put, List.setIfInBounds_toArray, List.set_cons_zero, List.set_cons_succ]
    refine takeH 3 rfl rfl (some 21) rfl (.pointer (some ⟨ib, 0, none⟩)) (by kernel_rfl) (by kernel_rfl) (by kernel_rfl) (fun _ _ _ h => h) (fun _ _ => by kernel_rfl) hS ?_
    simp only [Act.put, List.setIfInBounds_toArray, List.set_cons_zero, List.set_cons_succ]
    refine takeH 5 rfl rfl (some 23) rfl (.agg #[.int .i64 vr, .string (B key), .string ⟨#[]⟩, .string ⟨#[]⟩, .string (B t), .string ⟨#[]⟩, .string (B tag)]) (by kernel_rfl) (by kernel_rfl) (by kernel_rfl) (fun _ _ _ h => h) (fun w1 h1 => run_load_row 203 _ rfl E rfl _ _ _ h1 _ Tryz.underlying203 rfl (by kernel_rfl)) hS ?_
    simp only [Act.put, List.setIfInBounds_toArray, List.set_cons_zero, List.set_cons_succ]
    refine twoH 4 6 rfl rfl rfl rfl (by kernel_rfl) (fun K hK => ?_) (fun K hK => ?_)
    · refine wpH_run (w' := W2.drew) (some 22) rfl v (runLoad _ _ rfl _ _ rfl (ldSl W2.drew _ _ hc)) ?_
      simp only [Act.put, List.setIfInBounds_toArray, List.set_cons_zero, List.set_cons_succ]
      refine hK _ _ hS fun _ => ?_
      clear hK K
      refine oneH 6 rfl rfl (by kernel_rfl) fun K hK => ?_
      have hSa : ((W2.drew.alloc (.cells #[.int .i64 vr, .string (B key), .string ⟨#[]⟩, .string ⟨#[]⟩, .string (B t), .string ⟨#[]⟩, .string (B tag)] 203))).heap[E]? = some (.cells #[.int .i64 vr, .string (B key), .string ⟨#[]⟩, .string ⟨#[]⟩, .string (B t), .string ⟨#[]⟩, .string (B tag)] 203 (0, 0)) := heap_under hS
      refine wpH_run (w' := W2.drew.alloc (.cells #[.int .i64 vr, .string (B key), .string ⟨#[]⟩, .string ⟨#[]⟩, .string (B t), .string ⟨#[]⟩, .string (B tag)] 203)) (some 24) rfl (.slice (some ⟨W2.drew.heap.size, 0, none⟩) 1 1) (by kernel_rfl) ?_
      simp only [Act.put, List.setIfInBounds_toArray, List.set_cons_zero, List.set_cons_succ]
      refine hK _ _ hSa fun _ => ?_
      clear hK K
      refine oneH 7 rfl rfl (by kernel_rfl) fun K hK => ?_
      refine wp_append_lies (W2.drew.alloc (.cells #[.int .i64 vr, .string (B key), .string ⟨#[]⟩, .string ⟨#[]⟩, .string (B t), .string ⟨#[]⟩, .string (B tag)] 203)) _ _ 57 rfl base 203 inf (.agg #[.int .i64 0, .string ⟨#[]⟩, .string ⟨#[]⟩, .string ⟨#[]⟩, .string ⟨#[]⟩, .string ⟨#[]⟩, .string ⟨#[]⟩]) 7 104 Tryz.underlying57 hq hz1 hz2 hz3 rfl (by omega) v n xs rfl (World.ownsRow.alloc (w := W2.drew) hown2 _) ⟨W2.drew.heap.size, 0, none⟩ 1 1 (#[.int .i64 vr, .string (B key), .string ⟨#[]⟩, .string ⟨#[]⟩, .string (B t), .string ⟨#[]⟩, .string (B tag)] : Array Value).toList rfl rfl (new_cells W2.drew _ _) (by simp [Value.oneCell']) (by omega) (by simp only [maxLen]; omega) (by omega) (by simp; omega) _ rfl ?_
      intro g cap w4 hown4 hg4 hgg hgl
      simp only [Act.put, List.setIfInBounds_toArray, List.set_cons_zero, List.set_cons_succ]
      have hrow : ∀ k, k < W2.heap.size → v.ownBlock ≠ some k → w4.heap[k]? = W2.heap[k]? := fun k hk hne => (hg4.block k (by simp; omega) (Ne.symm hne)).trans (Below.heap_alloc W2.drew _ k hk)
      have hS4 : w4.heap[E]? = some (.cells #[.int .i64 vr, .string (B key), .string ⟨#[]⟩, .string ⟨#[]⟩, .string (B t), .string ⟨#[]⟩, .string (B tag)] 203 (0, 0)) := by rw [hrow _ (lt_of_heap hS) hvE]; exact hS
      refine hK _ _ hS4 fun _ => ?_
      clear hK K
      refine takeH 8 rfl rfl (some 26) rfl (.pointer (some ⟨ib, 0, none⟩)) (by kernel_rfl) (by kernel_rfl) (by kernel_rfl) (fun _ _ _ h => h) (fun _ _ => by kernel_rfl) hS4 ?_
      simp only [Act.put, List.setIfInBounds_toArray, List.set_cons_zero, List.set_cons_succ]
      refine takeH 9 rfl rfl (some 27) rfl (.pointer (some ⟨ib, 0, none⟩)) (by kernel_rfl) (by kernel_rfl) (by kernel_rfl) (fun _ _ _ h => h) (fun _ _ => by kernel_rfl) hS4 ?_
      simp only [Act.put, List.setIfInBounds_toArray, List.set_cons_zero, List.set_cons_succ]
      have hib4 : w4.heap[ib]? = some (.cells #[v] 59 (0, 0)) := by rw [hrow _ (lt_of_heap hib2) hvI]; exact hib2
      have hS5 : (w4.setCell ⟨ib, 0, none⟩ (.slice (some ⟨g, 0, none⟩) (n + 1) cap)).heap[E]? = some (.cells #[.int .i64 vr, .string (B key), .string ⟨#[]⟩, .string ⟨#[]⟩, .string (B t), .string ⟨#[]⟩, .string (B tag)] 203 (0, 0)) := by rw [setCell_block _ _ _ _ _ (by omega)]; exact hS4
      refine oneH 10 rfl rfl (by kernel_rfl) fun K hK => ?_
      refine wpH_skip (w' := w4.setCell ⟨ib, 0, none⟩ (.slice (some ⟨g, 0, none⟩) (n + 1) cap)) rfl (runStore _ _ _ rfl _ _ rfl rfl (stSl w4 ib _ v hib4 ⟨_, _, _, rfl⟩)) ?_
      refine hK _ _ hS5 fun _ => ?_
      clear hK K
      refine wpAnyH_done (by kernel_rfl) ?_ _
      have HEND := Lib.hid (engine_end hlt hK2 hib4 hown4 ((Below.refl W2.heap.size W2).drew.alloc (Nat.le_refl _) _) hg4 hgg hib)
      generalize w4.setCell ⟨ib, 0, none⟩ (.slice (some ⟨g, 0, none⟩) (n + 1) cap) = W5 at *
      have h6 : W5.cell? ⟨E, 6, none⟩ = some (.string (B tag)) := by rw [cell_of_row _ _ _ _ _ _ hS5]; rfl
      clear hS5 hib4 hS4 hrow hg4 hown4
      go_wp2
      go_ret
      exact ⟨rfl, by first | exact HEND.out | (have h9 := HEND.out; rw [hform] at h9; exact h9)⟩
    · have hSa : ((W2.drew.alloc (.cells #[.int .i64 vr, .string (B key), .string ⟨#[]⟩, .string ⟨#[]⟩, .string (B t), .string ⟨#[]⟩, .string (B tag)] 203))).heap[E]? = some (.cells #[.int .i64 vr, .string (B key), .string ⟨#[]⟩, .string ⟨#[]⟩, .string (B t), .string ⟨#[]⟩, .string (B tag)] 203 (0, 0)) := heap_under hS
      refine wpH_run (w' := W2.drew.alloc (.cells #[.int .i64 vr, .string (B key), .string ⟨#[]⟩, .string ⟨#[]⟩, .string (B t), .string ⟨#[]⟩, .string (B tag)] 203)) (some 24) rfl (.slice (some ⟨W2.drew.heap.size, 0, none⟩) 1 1) (by kernel_rfl) ?_
      simp only [Act.put, List.setIfInBounds_toArray, List.set_cons_zero, List.set_cons_succ]
      refine hK _ _ hSa fun _ => ?_
      clear hK K
      refine oneH 4 rfl rfl (by kernel_rfl) fun K hK => ?_
      refine wpH_run (w' := (W2.drew.alloc (.cells #[.int .i64 vr, .string (B key), .string ⟨#[]⟩, .string ⟨#[]⟩, .string (B t), .string ⟨#[]⟩, .string (B tag)] 203))) (some 22) rfl v (runLoad _ _ rfl _ _ rfl (ldSl (W2.drew.alloc (.cells #[.int .i64 vr, .string (B key), .string ⟨#[]⟩, .string ⟨#[]⟩, .string (B t), .string ⟨#[]⟩, .string (B tag)] 203)) _ _ (by rw [World.cell?_alloc_lt _ _ _ (lt_of_heap hib2)]; exact hc))) ?_
      simp only [Act.put, List.setIfInBounds_toArray, List.set_cons_zero, List.set_cons_succ]
      refine hK _ _ hSa fun _ => ?_
      clear hK K
      refine oneH 7 rfl rfl (by kernel_rfl) fun K hK => ?_
      refine wp_append_lies (W2.drew.alloc (.cells #[.int .i64 vr, .string (B key), .string ⟨#[]⟩, .string ⟨#[]⟩, .string (B t), .string ⟨#[]⟩, .string (B tag)] 203)) _ _ 57 rfl base 203 inf (.agg #[.int .i64 0, .string ⟨#[]⟩, .string ⟨#[]⟩, .string ⟨#[]⟩, .string ⟨#[]⟩, .string ⟨#[]⟩, .string ⟨#[]⟩]) 7 104 Tryz.underlying57 hq hz1 hz2 hz3 rfl (by omega) v n xs rfl (World.ownsRow.alloc (w := W2.drew) hown2 _) ⟨W2.drew.heap.size, 0, none⟩ 1 1 (#[.int .i64 vr, .string (B key), .string ⟨#[]⟩, .string ⟨#[]⟩, .string (B t), .string ⟨#[]⟩, .string (B tag)] : Array Value).toList rfl rfl (new_cells W2.drew _ _) (by simp [Value.oneCell']) (by omega) (by simp only [maxLen]; omega) (by omega) (by simp; omega) _ rfl ?_
      intro g cap w4 hown4 hg4 hgg hgl
      simp only [Act.put, List.setIfInBounds_toArray, List.set_cons_zero, List.set_cons_succ]
      have hrow : ∀ k, k < W2.heap.size → v.ownBlock ≠ some k → w4.heap[k]? = W2.heap[k]? := fun k hk hne => (hg4.block k (by simp; omega) (Ne.symm hne)).trans (Below.heap_alloc W2.drew _ k hk)
      have hS4 : w4.heap[E]? = some (.cells #[.int .i64 vr, .string (B key), .string ⟨#[]⟩, .string ⟨#[]⟩, .string (B t), .string ⟨#[]⟩, .string (B tag)] 203 (0, 0)) := by rw [hrow _ (lt_of_heap hS) hvE]; exact hS
      refine hK _ _ hS4 fun _ => ?_
      clear hK K
      refine takeH 8 rfl rfl (some 26) rfl (.pointer (some ⟨ib, 0, none⟩)) (by kernel_rfl) (by kernel_rfl) (by kernel_rfl) (fun _ _ _ h => h) (fun _ _ => by kernel_rfl) hS4 ?_
      simp only [Act.put, List.setIfInBounds_toArray, List.set_cons_zero, List.set_cons_succ]
      refine takeH 9 rfl rfl (some 27) rfl (.pointer (some ⟨ib, 0, none⟩)) (by kernel_rfl) (by kernel_rfl) (by kernel_rfl) (fun _ _ _ h => h) (fun _ _ => by kernel_rfl) hS4 ?_
      simp only [Act.put, List.setIfInBounds_toArray, List.set_cons_zero, List.set_cons_succ]
      have hib4 : w4.heap[ib]? = some (.cells #[v] 59 (0, 0)) := by rw [hrow _ (lt_of_heap hib2) hvI]; exact hib2
      have hS5 : (w4.setCell ⟨ib, 0, none⟩ (.slice (some ⟨g, 0, none⟩) (n + 1) cap)).heap[E]? = some (.cells #[.int .i64 vr, .string (B key), .string ⟨#[]⟩, .string ⟨#[]⟩, .string (B t), .string ⟨#[]⟩, .string (B tag)] 203 (0, 0)) := by rw [setCell_block _ _ _ _ _ (by omega)]; exact hS4
      refine oneH 10 rfl rfl (by kernel_rfl) fun K hK => ?_
      refine wpH_skip (w' := w4.setCell ⟨ib, 0, none⟩ (.slice (some ⟨g, 0, none⟩) (n + 1) cap)) rfl (runStore _ _ _ rfl _ _ rfl rfl (stSl w4 ib _ v hib4 ⟨_, _, _, rfl⟩)) ?_
      refine hK _ _ hS5 fun _ => ?_
      clear hK K
      refine wpAnyH_done (by kernel_rfl) ?_ _
      have HEND := Lib.hid (engine_end hlt hK2 hib4 hown4 ((Below.refl W2.heap.size W2).drew.alloc (Nat.le_refl _) _) hg4 hgg hib)
      generalize w4.setCell ⟨ib, 0, none⟩ (.slice (some ⟨g, 0, none⟩) (n + 1) cap) = W5 at *
      have h6 : W5.cell? ⟨E, 6, none⟩ = some (.string (B tag)) := by rw [cell_of_row _ _ _ _ _ _ hS5]; rfl
      clear hS5 hib4 hS4 hrow hg4 hown4
      go_wp2
      go_ret
      exact ⟨rfl, by first | exact HEND.out | (have h9 := HEND.out; rw [hform] at h9; exact h9)⟩
set_option maxHeartbeats 1600000 in
set_option maxRecDepth 100000 in
theorem iseal_any (base ib n sz : Nat) (v : Value) (xs : List Value) (vr : Int) (key nonce wth t : List UInt8) (w : World) (hT : TabAt w base ib v n xs) (hz : size vr = (sz : Int)) (hn : n ≤ 1000) (hsz : sz ≤ 100) (htl : t.length ≤ 1000) (hb : base ≤ w.heap.size) (hib : ib < base) :
    Calls Tryz.prog 154 #[.pointer (some ⟨ib, 0, none⟩), .int .i64 vr, .string (B key), .string (B nonce), .string (B wth), .string (B t)] w fun e w' => e = .returned (.tuple #[.string (B (freshB (n + 1) t.length)), .string (B (freshB (n + 1) sz))]) ∧ OneMore w w' base ib v n (xs ++ [.int .i64 vr, .string (B key), .string (B nonce), .string (B wth), .string (B t), .string (B (freshB (n + 1) t.length)), .string (B (freshB (n + 1) sz))]) := by
  have hlt := hT.lt
  obtain ⟨hti, hown⟩ := hT
  obtain ⟨p, c, hform⟩ := own_form hown
  have HS := Lib.hid fun W => size_any vr W
  rw [hz] at HS
  have HF := Lib.hid fun W h => fresh_any ib n c sz p W h hn (by omega)
  have HF2 := Lib.hid fun W h => fresh_any ib n c t.length p W h hn htl
  have hc0 : w.cell? ⟨ib, 0, none⟩ = some (.slice p n c) := by rw [← hform, cell_of_row _ _ _ _ _ _ hti]; rfl
  generalize freshB (n + 1) sz = tag at *
  generalize freshB (n + 1) t.length = made at *
  clear hz
  cases hq : Tryz.prog.info? 203 with
  | none => have := infoE; rw [hq] at this; cases this
  | some inf =>
    have hi := infoE
    rw [hq] at hi
    simp only [Option.map_some, Option.some.injEq, Prod.mk.injEq] at hi
    obtain ⟨hz1, hz2, hz3⟩ := hi
    have HQ := Lib.hid hq
    have HZ1 := Lib.hid hz1
    clear hq hz1
    go_enter Tryz.func154, Tryz.ntmps154
    go_wp2_with fail
    refine Calls.below (HF2.out _ hc0) fun W0 hW0 => ?_
    have hc9 : W0.cell? ⟨ib, 0, none⟩ = some (.slice p n c) := by rw [hW0.cell (p := ⟨ib, 0, none⟩) (lt_of_heap hti)]; exact hc0
    go_wp2_with fail
    refine (HS.out _).mono ?_
    rintro _ _ ⟨rfl, rfl⟩
    go_wp2_with fail
    refine Calls.below (HF.out _ hc9) fun W1 hW01 => ?_
    have hW1 : Below w.heap.size w W1 := hW0.trans (hW01.mono hW0.size)
    clear hW01 hW0 hc9
    go_upto_region 2 with fail
    have hib1 : W1.heap[ib]? = some (.cells #[v] 59 (0, 0)) := below_heap hW1 (lt_of_heap hti) hti
    have hown1 := own_below hown hW1
    have hE0 : w.heap.size ≤ W1.heap.size := hW1.size
    have hS : (W1.alloc (.cells #[.int .i64 vr, .string (B key), .string (B nonce), .string (B wth), .string (B t), .string (B made), .string (B tag)] 203)).heap[W1.heap.size]? = some (.cells #[.int .i64 vr, .string (B key), .string (B nonce), .string (B wth), .string (B t), .string (B made), .string (B tag)] 203 (0, 0)) := heap_alloc_last W1 _
    have hib2 : (W1.alloc (.cells #[.int .i64 vr, .string (B key), .string (B nonce), .string (B wth), .string (B t), .string (B made), .string (B tag)] 203)).heap[ib]? = some (.cells #[v] 59 (0, 0)) := heap_under hib1
    have hown2 := hown1.alloc (.cells #[.int .i64 vr, .string (B key), .string (B nonce), .string (B wth), .string (B t), .string (B made), .string (B tag)] 203)
    have hK2 : Below w.heap.size w (W1.alloc (.cells #[.int .i64 vr, .string (B key), .string (B nonce), .string (B wth), .string (B t), .string (B made), .string (B tag)] 203)) := hW1.alloc hE0 _
    have hvE : v.ownBlock ≠ some W1.heap.size := fun e => by have := (hlt _ e).2; omega
    have hvI : v.ownBlock ≠ some ib := fun e => by have := (hlt _ e).1; omega
    have hib0 := lt_of_heap hti
    generalize W1.alloc (.cells #[.int .i64 vr, .string (B key), .string (B nonce), .string (B wth), .string (B t), .string (B made), .string (B tag)] 203) = W2 at *
    generalize W1.heap.size = E at *
    have hc : W2.drew.cell? ⟨ib, 0, none⟩ = some v := by
      show W2.cell? ⟨ib, 0, none⟩ = some v
      rw [cell_of_row _ _ _ _ _ _ hib2]; rfl
    have hS0 := hS
    replace hS : W2.drew.heap[E]? = some (.cells #[.int .i64 vr, .string (B key), .string (B nonce), .string (B wth), .string (B t), .string (B made), .string (B tag)] 203 (0, 0)) := hS0
    have hq := HQ.out
    have hz1 := HZ1.out
    have hw2 := hK2.size
    clear hW1 hib1 hown1 hti hown hc0 HS HF
    refine wp_region_held (S := fun W => W.heap[E]? = some (.cells #[.int .i64 vr, .string (B key), .string (B nonce), .string (B wth), .string (B t), .string (B made), .string (B tag)] 203 (0, 0))) (by kernel_rfl) ?_
    change wpAnyH _ _ _ _ _ _ _ _ W2.drew
    refine takeH 0 rfl rfl (some 29) rfl (.pointer (some ⟨ib, 0, none⟩)) (by kernel_rfl) (by kernel_rfl) (by kernel_rfl) (fun _ _ _ h => h) (fun _ _ => rfl) hS ?_
    simp only [Act.put, List.setIfInBounds_toArray, List.set_cons_zero, List.set_cons_succ]
    refine takeH 1 rfl rfl (some 30) rfl (.pointer (some ⟨ib, 0, none⟩)) (by kernel_rfl) (by kernel_rfl) (by kernel_rfl) (fun _ _ _ h => h) (fun _ _ => rfl) hS ?_
    simp only [Act.put, List.setIfInBounds_toArray, List.set_cons_zero, List.set_cons_succ]
    refine takeH 2 rfl rfl (some 31) rfl (.pointer (some ⟨ib, 0, none⟩)) (by kernel_rfl) (by kernel_rfl) (by kernel_rfl) (fun _ _ _ h => h) (fun _ _ => by kernel_rfl) hS ?_
    simp only [Act.put, List.setIfInBounds_toArray, List.set_cons_zero, List.set_cons_succ]
    refine takeH 3 rfl rfl (some 32) rfl (.pointer (some ⟨ib, 0, none⟩)) (by kernel_rfl) (by kernel_rfl) (by kernel_rfl) (fun _ _ _ h => h) (fun _ _ => by kernel_rfl) hS ?_
    simp only [Act.put, List.setIfInBounds_toArray, List.set_cons_zero, List.set_cons_succ]
    refine takeH 5 rfl rfl (some 34) rfl (.agg #[.int .i64 vr, .string (B key), .string (B nonce), .string (B wth), .string (B t), .string (B made), .string (B tag)]) (by kernel_rfl) (by kernel_rfl) (by kernel_rfl) (fun _ _ _ h => h) (fun w1 h1 => run_load_row 203 _ rfl E rfl _ _ _ h1 _ Tryz.underlying203 rfl (by kernel_rfl)) hS ?_
    simp only [Act.put, List.setIfInBounds_toArray, List.set_cons_zero, List.set_cons_succ]
    refine twoH 4 6 rfl rfl rfl rfl (by kernel_rfl) (fun K hK => ?_) (fun K hK => ?_)
    · refine wpH_run (w' := W2.drew) (some 33) rfl v (runLoad _ _ rfl _ _ rfl (ldSl W2.drew _ _ hc)) ?_
      simp only [Act.put, List.setIfInBounds_toArray, List.set_cons_zero, List.set_cons_succ]
      refine hK _ _ hS fun _ => ?_
      clear hK K
      refine oneH 6 rfl rfl (by kernel_rfl) fun K hK => ?_
      have hSa : ((W2.drew.alloc (.cells #[.int .i64 vr, .string (B key), .string (B nonce), .string (B wth), .string (B t), .string (B made), .string (B tag)] 203))).heap[E]? = some (.cells #[.int .i64 vr, .string (B key), .string (B nonce), .string (B wth), .string (B t), .string (B made), .string (B tag)] 203 (0, 0)) := heap_under hS
      refine wpH_run (w' := W2.drew.alloc (.cells #[.int .i64 vr, .string (B key), .string (B nonce), .string (B wth), .string (B t), .string (B made), .string (B tag)] 203)) (some 35) rfl (.slice (some ⟨W2.drew.heap.size, 0, none⟩) 1 1) (by kernel_rfl) ?_
      simp only [Act.put, List.setIfInBounds_toArray, List.set_cons_zero, List.set_cons_succ]
      refine hK _ _ hSa fun _ => ?_
      clear hK K
      refine oneH 7 rfl rfl (by kernel_rfl) fun K hK => ?_
      refine wp_append_lies (W2.drew.alloc (.cells #[.int .i64 vr, .string (B key), .string (B nonce), .string (B wth), .string (B t), .string (B made), .string (B tag)] 203)) _ _ 57 rfl base 203 inf (.agg #[.int .i64 0, .string ⟨#[]⟩, .string ⟨#[]⟩, .string ⟨#[]⟩, .string ⟨#[]⟩, .string ⟨#[]⟩, .string ⟨#[]⟩]) 7 104 Tryz.underlying57 hq hz1 hz2 hz3 rfl (by omega) v n xs rfl (World.ownsRow.alloc (w := W2.drew) hown2 _) ⟨W2.drew.heap.size, 0, none⟩ 1 1 (#[.int .i64 vr, .string (B key), .string (B nonce), .string (B wth), .string (B t), .string (B made), .string (B tag)] : Array Value).toList rfl rfl (new_cells W2.drew _ _) (by simp [Value.oneCell']) (by omega) (by simp only [maxLen]; omega) (by omega) (by simp; omega) _ rfl ?_
      intro g cap w4 hown4 hg4 hgg hgl
      simp only [Act.put, List.setIfInBounds_toArray, List.set_cons_zero, List.set_cons_succ]
      have hrow : ∀ k, k < W2.heap.size → v.ownBlock ≠ some k → w4.heap[k]? = W2.heap[k]? := fun k hk hne => (hg4.block k (by simp; omega) (Ne.symm hne)).trans (Below.heap_alloc W2.drew _ k hk)
      have hS4 : w4.heap[E]? = some (.cells #[.int .i64 vr, .string (B key), .string (B nonce), .string (B wth), .string (B t), .string (B made), .string (B tag)] 203 (0, 0)) := by rw [hrow _ (lt_of_heap hS) hvE]; exact hS
      refine hK _ _ hS4 fun _ => ?_
      clear hK K
      refine takeH 8 rfl rfl (some 37) rfl (.pointer (some ⟨ib, 0, none⟩)) (by kernel_rfl) (by kernel_rfl) (by kernel_rfl) (fun _ _ _ h => h) (fun _ _ => by kernel_rfl) hS4 ?_
      simp only [Act.put, List.setIfInBounds_toArray, List.set_cons_zero, List.set_cons_succ]
      refine takeH 9 rfl rfl (some 38) rfl (.pointer (some ⟨ib, 0, none⟩)) (by kernel_rfl) (by kernel_rfl) (by kernel_rfl) (fun _ _ _ h => h) (fun _ _ => by kernel_rfl) hS4 ?_
      simp only [Act.put, List.setIfInBounds_toArray, List.set_cons_zero, List.set_cons_succ]
      have hib4 : w4.heap[ib]? = some (.cells #[v] 59 (0, 0)) := by rw [hrow _ (lt_of_heap hib2) hvI]; exact hib2
      have hS5 : (w4.setCell ⟨ib, 0, none⟩ (.slice (some ⟨g, 0, none⟩) (n + 1) cap)).heap[E]? = some (.cells #[.int .i64 vr, .string (B key), .string (B nonce), .string (B wth), .string (B t), .string (B made), .string (B tag)] 203 (0, 0)) := by rw [setCell_block _ _ _ _ _ (by omega)]; exact hS4
      refine oneH 10 rfl rfl (by kernel_rfl) fun K hK => ?_
      refine wpH_skip (w' := w4.setCell ⟨ib, 0, none⟩ (.slice (some ⟨g, 0, none⟩) (n + 1) cap)) rfl (runStore _ _ _ rfl _ _ rfl rfl (stSl w4 ib _ v hib4 ⟨_, _, _, rfl⟩)) ?_
      refine hK _ _ hS5 fun _ => ?_
      clear hK K
      refine wpAnyH_done (by kernel_rfl) ?_ _
      have HEND := Lib.hid (engine_end hlt hK2 hib4 hown4 ((Below.refl W2.heap.size W2).drew.alloc (Nat.le_refl _) _) hg4 hgg hib)
      generalize w4.setCell ⟨ib, 0, none⟩ (.slice (some ⟨g, 0, none⟩) (n + 1) cap) = W5 at *
      go_wp2
      have hS6 : W5.drew.heap[E]? = some (.cells #[.int .i64 vr, .string (B key), .string (B nonce), .string (B wth), .string (B t), .string (B made), .string (B tag)] 203 (0, 0)) := hS5
      clear hS5 hib4 hS4 hrow hg4 hown4
      refine wp_region_held (S := fun W => W.heap[E]? = some (.cells #[.int .i64 vr, .string (B key), .string (B nonce), .string (B wth), .string (B t), .string (B made), .string (B tag)] 203 (0, 0))) (by kernel_rfl) ?_
      change wpAnyH _ _ _ _ _ _ _ _ W5.drew
      refine takeH 0 rfl rfl (some 39) rfl (.pointer (some ⟨E, 5, none⟩)) (by kernel_rfl) (by kernel_rfl) (by kernel_rfl) (fun _ _ _ h => h) (fun _ _ => by kernel_rfl) hS6 ?_
      simp only [Act.put, List.setIfInBounds_toArray, List.set_cons_zero, List.set_cons_succ]
      refine takeH 1 rfl rfl (some 40) rfl (.string (B made)) (by kernel_rfl) (by kernel_rfl) (by kernel_rfl) (fun _ _ _ h => h) (fun w1 h1 => runLoad _ _ rfl _ _ rfl (ldStr w1 _ _ (by rw [cell_of_row _ _ _ _ _ _ h1]; rfl))) hS6 ?_
      simp only [Act.put, List.setIfInBounds_toArray, List.set_cons_zero, List.set_cons_succ]
      refine takeH 2 rfl rfl (some 41) rfl (.pointer (some ⟨E, 6, none⟩)) (by kernel_rfl) (by kernel_rfl) (by kernel_rfl) (fun _ _ _ h => h) (fun _ _ => by kernel_rfl) hS6 ?_
      simp only [Act.put, List.setIfInBounds_toArray, List.set_cons_zero, List.set_cons_succ]
      refine takeH 3 rfl rfl (some 42) rfl (.string (B tag)) (by kernel_rfl) (by kernel_rfl) (by kernel_rfl) (fun _ _ _ h => h) (fun w1 h1 => runLoad _ _ rfl _ _ rfl (ldStr w1 _ _ (by rw [cell_of_row _ _ _ _ _ _ h1]; rfl))) hS6 ?_
      simp only [Act.put, List.setIfInBounds_toArray, List.set_cons_zero, List.set_cons_succ]
      refine takeH 4 rfl rfl (some 12) rfl (.string (B made)) (by kernel_rfl) (by kernel_rfl) (by kernel_rfl) (fun _ _ _ h => h) (fun _ _ => rfl) hS6 ?_
      simp only [Act.put, List.setIfInBounds_toArray, List.set_cons_zero, List.set_cons_succ]
      refine takeH 5 rfl rfl (some 13) rfl (.string (B tag)) (by kernel_rfl) (by kernel_rfl) (by kernel_rfl) (fun _ _ _ h => h) (fun _ _ => rfl) hS6 ?_
      simp only [Act.put, List.setIfInBounds_toArray, List.set_cons_zero, List.set_cons_succ]
      refine wpAnyH_done (by kernel_rfl) ?_ _
      go_wp2
      go_ret2
      exact ⟨rfl, by first | exact one_drew HEND.out | (have h9 := one_drew HEND.out; rw [hform] at h9; exact h9)⟩
    · have hSa : ((W2.drew.alloc (.cells #[.int .i64 vr, .string (B key), .string (B nonce), .string (B wth), .string (B t), .string (B made), .string (B tag)] 203))).heap[E]? = some (.cells #[.int .i64 vr, .string (B key), .string (B nonce), .string (B wth), .string (B t), .string (B made), .string (B tag)] 203 (0, 0)) := heap_under hS
      refine wpH_run (w' := W2.drew.alloc (.cells #[.int .i64 vr, .string (B key), .string (B nonce), .string (B wth), .string (B t), .string (B made), .string (B tag)] 203)) (some 35) rfl (.slice (some ⟨W2.drew.heap.size, 0, none⟩) 1 1) (by kernel_rfl) ?_
      simp only [Act.put, List.setIfInBounds_toArray, List.set_cons_zero, List.set_cons_succ]
      refine hK _ _ hSa fun _ => ?_
      clear hK K
      refine oneH 4 rfl rfl (by kernel_rfl) fun K hK => ?_
      refine wpH_run (w' := (W2.drew.alloc (.cells #[.int .i64 vr, .string (B key), .string (B nonce), .string (B wth), .string (B t), .string (B made), .string (B tag)] 203))) (some 33) rfl v (runLoad _ _ rfl _ _ rfl (ldSl (W2.drew.alloc (.cells #[.int .i64 vr, .string (B key), .string (B nonce), .string (B wth), .string (B t), .string (B made), .string (B tag)] 203)) _ _ (by rw [World.cell?_alloc_lt _ _ _ (lt_of_heap hib2)]; exact hc))) ?_
      simp only [Act.put, List.setIfInBounds_toArray, List.set_cons_zero, List.set_cons_succ]
      refine hK _ _ hSa fun _ => ?_
      clear hK K
      refine oneH 7 rfl rfl (by kernel_rfl) fun K hK => ?_
      refine wp_append_lies (W2.drew.alloc (.cells #[.int .i64 vr, .string (B key), .string (B nonce), .string (B wth), .string (B t), .string (B made), .string (B tag)] 203)) _ _ 57 rfl base 203 inf (.agg #[.int .i64 0, .string ⟨#[]⟩, .string ⟨#[]⟩, .string ⟨#[]⟩, .string ⟨#[]⟩, .string ⟨#[]⟩, .string ⟨#[]⟩]) 7 104 Tryz.underlying57 hq hz1 hz2 hz3 rfl (by omega) v n xs rfl (World.ownsRow.alloc (w := W2.drew) hown2 _) ⟨W2.drew.heap.size, 0, none⟩ 1 1 (#[.int .i64 vr, .string (B key), .string (B nonce), .string (B wth), .string (B t), .string (B made), .string (B tag)] : Array Value).toList rfl rfl (new_cells W2.drew _ _) (by simp [Value.oneCell']) (by omega) (by simp only [maxLen]; omega) (by omega) (by simp; omega) _ rfl ?_
      intro g cap w4 hown4 hg4 hgg hgl
      simp only [Act.put, List.setIfInBounds_toArray, List.set_cons_zero, List.set_cons_succ]
      have hrow : ∀ k, k < W2.heap.size → v.ownBlock ≠ some k → w4.heap[k]? = W2.heap[k]? := fun k hk hne => (hg4.block k (by simp; omega) (Ne.symm hne)).trans (Below.heap_alloc W2.drew _ k hk)
      have hS4 : w4.heap[E]? = some (.cells #[.int .i64 vr, .string (B key), .string (B nonce), .string (B wth), .string (B t), .string (B made), .string (B tag)] 203 (0, 0)) := by rw [hrow _ (lt_of_heap hS) hvE]; exact hS
      refine hK _ _ hS4 fun _ => ?_
      clear hK K
      refine takeH 8 rfl rfl (some 37) rfl (.pointer (some ⟨ib, 0, none⟩)) (by kernel_rfl) (by kernel_rfl) (by kernel_rfl) (fun _ _ _ h => h) (fun _ _ => by kernel_rfl) hS4 ?_
      simp only [Act.put, List.setIfInBounds_toArray, List.set_cons_zero, List.set_cons_succ]
      refine takeH 9 rfl rfl (some 38) rfl (.pointer (some ⟨ib, 0, none⟩)) (by kernel_rfl) (by kernel_rfl) (by kernel_rfl) (fun _ _ _ h => h) (fun _ _ => by kernel_rfl) hS4 ?_
      simp only [Act.put, List.setIfInBounds_toArray, List.set_cons_zero, List.set_cons_succ]
      have hib4 : w4.heap[ib]? = some (.cells #[v] 59 (0, 0)) := by rw [hrow _ (lt_of_heap hib2) hvI]; exact hib2
      have hS5 : (w4.setCell ⟨ib, 0, none⟩ (.slice (some ⟨g, 0, none⟩) (n + 1) cap)).heap[E]? = some (.cells #[.int .i64 vr, .string (B key), .string (B nonce), .string (B wth), .string (B t), .string (B made), .string (B tag)] 203 (0, 0)) := by rw [setCell_block _ _ _ _ _ (by omega)]; exact hS4
      refine oneH 10 rfl rfl (by kernel_rfl) fun K hK => ?_
      refine wpH_skip (w' := w4.setCell ⟨ib, 0, none⟩ (.slice (some ⟨g, 0, none⟩) (n + 1) cap)) rfl (runStore _ _ _ rfl _ _ rfl rfl (stSl w4 ib _ v hib4 ⟨_, _, _, rfl⟩)) ?_
      refine hK _ _ hS5 fun _ => ?_
      clear hK K
      refine wpAnyH_done (by kernel_rfl) ?_ _
      have HEND := Lib.hid (engine_end hlt hK2 hib4 hown4 ((Below.refl W2.heap.size W2).drew.alloc (Nat.le_refl _) _) hg4 hgg hib)
      generalize w4.setCell ⟨ib, 0, none⟩ (.slice (some ⟨g, 0, none⟩) (n + 1) cap) = W5 at *
      go_wp2
      have hS6 : W5.drew.heap[E]? = some (.cells #[.int .i64 vr, .string (B key), .string (B nonce), .string (B wth), .string (B t), .string (B made), .string (B tag)] 203 (0, 0)) := hS5
      clear hS5 hib4 hS4 hrow hg4 hown4
      refine wp_region_held (S := fun W => W.heap[E]? = some (.cells #[.int .i64 vr, .string (B key), .string (B nonce), .string (B wth), .string (B t), .string (B made), .string (B tag)] 203 (0, 0))) (by kernel_rfl) ?_
      change wpAnyH _ _ _ _ _ _ _ _ W5.drew
      refine takeH 0 rfl rfl (some 39) rfl (.pointer (some ⟨E, 5, none⟩)) (by kernel_rfl) (by kernel_rfl) (by kernel_rfl) (fun _ _ _ h => h) (fun _ _ => by kernel_rfl) hS6 ?_
      simp only [Act.put, List.setIfInBounds_toArray, List.set_cons_zero, List.set_cons_succ]
      refine takeH 1 rfl rfl (some 40) rfl (.string (B made)) (by kernel_rfl) (by kernel_rfl) (by kernel_rfl) (fun _ _ _ h => h) (fun w1 h1 => runLoad _ _ rfl _ _ rfl (ldStr w1 _ _ (by rw [cell_of_row _ _ _ _ _ _ h1]; rfl))) hS6 ?_
      simp only [Act.put, List.setIfInBounds_toArray, List.set_cons_zero, List.set_cons_succ]
      refine takeH 2 rfl rfl (some 41) rfl (.pointer (some ⟨E, 6, none⟩)) (by kernel_rfl) (by kernel_rfl) (by kernel_rfl) (fun _ _ _ h => h) (fun _ _ => by kernel_rfl) hS6 ?_
      simp only [Act.put, List.setIfInBounds_toArray, List.set_cons_zero, List.set_cons_succ]
      refine takeH 3 rfl rfl (some 42) rfl (.string (B tag)) (by kernel_rfl) (by kernel_rfl) (by kernel_rfl) (fun _ _ _ h => h) (fun w1 h1 => runLoad _ _ rfl _ _ rfl (ldStr w1 _ _ (by rw [cell_of_row _ _ _ _ _ _ h1]; rfl))) hS6 ?_
      simp only [Act.put, List.setIfInBounds_toArray, List.set_cons_zero, List.set_cons_succ]
      refine takeH 4 rfl rfl (some 12) rfl (.string (B made)) (by kernel_rfl) (by kernel_rfl) (by kernel_rfl) (fun _ _ _ h => h) (fun _ _ => rfl) hS6 ?_
      simp only [Act.put, List.setIfInBounds_toArray, List.set_cons_zero, List.set_cons_succ]
      refine takeH 5 rfl rfl (some 13) rfl (.string (B tag)) (by kernel_rfl) (by kernel_rfl) (by kernel_rfl) (fun _ _ _ h => h) (fun _ _ => rfl) hS6 ?_
      simp only [Act.put, List.setIfInBounds_toArray, List.set_cons_zero, List.set_cons_succ]
      refine wpAnyH_done (by kernel_rfl) ?_ _
      go_wp2
      go_ret2
      exact ⟨rfl, by first | exact one_drew HEND.out | (have h9 := one_drew HEND.out; rw [hform] at h9; exact h9)⟩
theorem nil_ahead_sign (n : Nat) (w : World) (a : Addr) : (nilAhead (n + 1) 56 (.pointer (some a)) "dromond/engine.sign").run Tryz.prog w = .ok (some false) w := by kernel_rfl
theorem method_sign (n : Nat) (w : World) (a : Addr) : (method (n + 1) 56 (.pointer (some a)) "dromond/engine.sign").run Tryz.prog w = .ok (155, .pointer (some a)) w := by kernel_rfl
theorem nil_ahead_seal (n : Nat) (w : World) (a : Addr) : (nilAhead (n + 1) 56 (.pointer (some a)) "dromond/engine.seal").run Tryz.prog w = .ok (some false) w := by kernel_rfl
theorem method_seal (n : Nat) (w : World) (a : Addr) : (method (n + 1) 56 (.pointer (some a)) "dromond/engine.seal").run Tryz.prog w = .ok (154, .pointer (some a)) w := by kernel_rfl
theorem signs_any (vr : Int) (key : List UInt8) (w : World) (hb : 0 < Eng.bits vr) (hk : key.isEmpty = false) (hl : (key.length : Int) ≤ 64) : Calls Tryz.prog 22 #[.int .i64 vr, .string (B key)] w fun e w' => e = .returned (.bool true) ∧ w = w' := by
  have HB := Lib.hid fun W => Eng.bits_any vr W
  generalize Eng.bits vr = b at *
  go_enter Tryz.func22, Tryz.ntmps22
  go_wp2_with fail
  refine (HB.out _).mono ?_
  rintro _ _ ⟨rfl, rfl⟩
  go_wp2
  go_ret
  exact ⟨rfl, rfl⟩
theorem seals_any (vr : Int) (key nonce : List UInt8) (k : Nat) (w : World) (hb : Eng.keyBytes vr = (k : Int)) (hk0 : 0 < k) (hk : key.length = k) (h8 : 8 ≤ (nonce.length : Int)) (h16 : (nonce.length : Int) ≤ 16) : Calls Tryz.prog 28 #[.int .i64 vr, .string (B key), .string (B nonce)] w fun e w' => e = .returned (.bool true) ∧ w = w' := by
  have HB := Lib.hid fun W => Eng.keyBytes_any vr W
  rw [hb] at HB
  have hki : 0 < (k : Int) := by omega
  have hkk : (key.length : Int) = (k : Int) := by omega
  clear hb
  go_enter Tryz.func28, Tryz.ntmps28
  go_wp2_with fail
  refine (HB.out _).mono ?_
  rintro _ _ ⟨rfl, rfl⟩
  go_wp2_with fail
  refine (HB.out _).mono ?_
  rintro _ _ ⟨rfl, rfl⟩
  go_wp2
  go_ret
  exact ⟨rfl, rfl⟩
theorem Sign_any (eb base ib n sz : Nat) (v : Value) (xs : List Value) (vr : Int) (key t : List UInt8) (w : World) (he : w.cell? ⟨eb, 0, none⟩ = some (.iface 56 (.pointer (some ⟨ib, 0, none⟩)))) (hT : TabAt w base ib v n xs) (hz : size vr = (sz : Int)) (hn : n ≤ 1000) (hsz : sz ≤ 100) (hb : base ≤ w.heap.size) (hib : ib < base)
    (hbits : 0 < Eng.bits vr) (hk : key.isEmpty = false) (hl : (key.length : Int) ≤ 64) :
    Calls Tryz.prog 10 #[.pointer (some ⟨eb, 0, none⟩), .int .i64 vr, .string (B key), .string (B t)] w fun e w' => e = .returned (.tuple #[.string (B (freshB (n + 1) sz)), .int .i64 0]) ∧ OneMore w w' base ib v n (xs ++ [.int .i64 vr, .string (B key), .string ⟨#[]⟩, .string ⟨#[]⟩, .string (B t), .string ⟨#[]⟩, .string (B (freshB (n + 1) sz))]) := by
  have h1 := nil_ahead_sign
  have h2 := method_sign
  have HS := Lib.hid fun W => signs_any vr key W hbits hk hl
  have HI := Lib.hid (isign_any base ib n sz v xs vr key t w hT hz hn hsz hb hib)
  clear hT hz hn hsz hb hib hbits hk hl
  generalize freshB (n + 1) sz = tag at *
  go_enter Tryz.func10, Tryz.ntmps10
  go_wp2_with fail
  refine (HS.out _).mono ?_
  rintro _ _ ⟨rfl, rfl⟩
  go_wp2_with fail
  refine HI.out.mono ?_
  rintro _ W1 ⟨rfl, hone⟩
  have HO := Lib.hid hone
  clear hone
  go_wp2
  go_ret2
  exact ⟨rfl, HO.out⟩
theorem Seal_any (eb base ib n sz k : Nat) (v : Value) (xs : List Value) (vr : Int) (key nonce wth t : List UInt8) (w : World) (he : w.cell? ⟨eb, 0, none⟩ = some (.iface 56 (.pointer (some ⟨ib, 0, none⟩)))) (hT : TabAt w base ib v n xs) (hz : size vr = (sz : Int)) (hn : n ≤ 1000) (hsz : sz ≤ 100) (htl : t.length ≤ 1000) (hb : base ≤ w.heap.size) (hib : ib < base)
    (hkb : Eng.keyBytes vr = (k : Int)) (hk0 : 0 < k) (hk : key.length = k) (h8 : 8 ≤ (nonce.length : Int)) (h16 : (nonce.length : Int) ≤ 16) :
    Calls Tryz.prog 14 #[.pointer (some ⟨eb, 0, none⟩), .int .i64 vr, .string (B key), .string (B nonce), .string (B wth), .string (B t)] w fun e w' => e = .returned (.tuple #[.string (B (freshB (n + 1) t.length)), .string (B (freshB (n + 1) sz)), .int .i64 0]) ∧ OneMore w w' base ib v n (xs ++ [.int .i64 vr, .string (B key), .string (B nonce), .string (B wth), .string (B t), .string (B (freshB (n + 1) t.length)), .string (B (freshB (n + 1) sz))]) := by
  have h1 := nil_ahead_seal
  have h2 := method_seal
  have HS := Lib.hid fun W => seals_any vr key nonce k W hkb hk0 hk h8 h16
  have HI := Lib.hid (iseal_any base ib n sz v xs vr key nonce wth t w hT hz hn hsz htl hb hib)
  clear hT hz hn hsz hb hib hkb hk0 hk h8 h16
  generalize freshB (n + 1) sz = tag at *
  generalize freshB (n + 1) t.length = made at *
  go_enter Tryz.func14, Tryz.ntmps14
  go_wp2_with fail
  refine (HS.out _).mono ?_
  rintro _ _ ⟨rfl, rfl⟩
  go_wp2_with fail
  refine HI.out.mono ?_
  rintro _ W1 ⟨rfl, hone⟩
  have HO := Lib.hid hone
  clear hone
  go_wp2
  exact bodyPost_ret (v := .tuple #[.string (B made), .string (B tag), .int .i64 0]) (by simp [results, Tryz.results14, go_sem]) rfl ⟨rfl, HO.out⟩
end Go.Proofs.YtlbpodddokhmaaaGreat.EngX
