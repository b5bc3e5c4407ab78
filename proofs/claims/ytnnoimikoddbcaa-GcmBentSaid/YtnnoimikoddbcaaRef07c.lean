/-
  The walk of the AES reference's Table; slices of integers that grow.
  Conditions: none.
-/
import Derived.Test.YtnnoimikoddbcaaRef07b
import Derived.Test.YtnnoimikoddbcaaAes7
namespace Go.Proofs.Ytnnoimikoddbcaa.Ref07
open Go.ChangeShapes Go.WideShapes Go.ChangeAt Go.RowKit Go.Deep Go.Great
open Go.Proofs.Ytnnoimikoddbcaa.Aes
theorem tab_part (f : Nat → Nat) (n i : Nat) (h : i ≤ n) : ∀ k, k < n → (fillN f (zeros n) i).getD k 0 = if k < i then f k else 0 := fun k hk => by
  rw [fillN_get _ _ _ _ (by rw [zeros_length]; exact h), zeros_get]
set_option maxRecDepth 100000 in
set_option maxHeartbeats 800000 in
theorem Table_any (w : World) : Calls Try.prog 46 #[] w fun e w' => e = .returned (.agg (nums .i64 subT)) ∧ Below w.heap.size w w' := by
  have HS := Lib.hid Sub_any
  go_enter Try.func46, Try.ntmps46
  go_wp2
  have hz256 : (nums .i64 (zeros 256)) = Try.zeroCells77 := by kernel_rfl
  rw [← hz256]
  go_loopw [2] (fun s2 wr => ∃ (i : Nat) (l : List Nat), i ≤ 256 ∧ s2 = .int .i64 i ∧ l = fillN subR (zeros 256) i ∧ wr = (w.alloc (.cells (nums .i64 (zeros 256)) 77)).alloc (.cells (nums .i64 l) 77)) (fun s _ => 256 - (intOf s).toNat)
  case atStart => exact ⟨0, zeros 256, by omega, rfl, rfl, rfl⟩
  case round =>
    obtain ⟨i, l, hi, rfl, hl, rfl⟩ := hrel
    have hll : l.length = 256 := by rw [hl, fillN_length, zeros_length]
    have HL := Lib.hid hl
    clear hl
    by_cases h256 : i = 256
    · subst h256
      have hls : l = subT := by rw [HL.out, fillN_full _ (zeros_length 256), subR_tab]
      have HLS := Lib.hid hls
      clear hls
      go_upto_region 6 with fail
      apply wp_region_lit (l := [_, _])
      refine wpList_load_rowTo rfl _ rfl 77 _ rfl (w.heap.size + 1) rfl (nums .i64 l) 77 (0, 0) (heap_at (by simp)) _ Try.underlying77 rfl (by rw [nums_size, hll]; kernel_rfl) ?_
      refine wpList_store_rowTo rfl 77 _ _ rfl rfl w.heap.size (nums .i64 l) rfl rfl 77 (nums .i64 (zeros 256)) (heap_under (heap_alloc_last w _)) (by rw [nums_size, hll]; kernel_rfl) (by rw [nums_size, nums_size, hll, zeros_length]) (nums_oneCell _ _) ?_
      rw [setRow_under _ _ _ _ (by simp), World.setRow_alloc_new]
      go_wp2
      refine post_row w.heap.size Try.results46 77 (nums .i64 l) _ rfl (heap_under (heap_alloc_last w _)) Try.underlying77 rfl (by rw [nums_size, hll]; kernel_rfl) rfl ⟨by rw [HLS.out], by ((repeat' (with_reducible first | exact Below.refl _ _ | assumption | refine Below.drew ?_ | refine below_drewN ?_ _ | refine Below.setCell ?_ ?_ _ | refine Below.alloc ?_ ?_ _ | refine Below.ext ?_ ?_ _ | refine Below.trans ?_ (Below.mono ‹_› ?_))) <;> first | omega | (simp; done) | (simp; omega))⟩
    · have hlt : (i : Int) < 256 := by omega
      have hget := nums_getD .i64 (l := l) (i := i) (by omega)
      go_wp2_with fail
      refine Calls.mono (HS.out i _ (by omega)) ?_
      rintro _ _ ⟨rfl, rfl⟩
      go_wp2
      go_round
      case rel => exact ⟨i + 1, l.set i (subR i), by omega, by go_num, by rw [HL.out]; rfl, by rw [nums_set, hz256]⟩
      case measure => simp [intOf]; omega
/-- A slice of integers that grows. -/
def valsI (l : List Nat) : List Value := l.map fun n => Value.int .i64 ((n : Nat) : Int)
def IntsAt (w : World) (base : Nat) (v : Value) (l : List Nat) : Prop := w.ownsRow base 3 1 v l.length (valsI l)
theorem valsI_length (l : List Nat) : (valsI l).length = l.length := by simp [valsI]
theorem IntsAt.nil (w : World) (base : Nat) : IntsAt w base (.slice none 0 0) [] := World.ownsRow_nil _ _ _ _
theorem IntsAt.view {w : World} {base : Nat} {v : Value} {l : List Nat} (h : IntsAt w base v l) (hl : 0 < l.length) :
    ∃ g cap, v = .slice (some ⟨g, 0, none⟩) l.length cap ∧ base ≤ g ∧ g < w.heap.size ∧ l.length ≤ cap ∧ cap ≤ maxLen ∧ ∀ j, j < l.length → w.cell? ⟨g, j, none⟩ = some (.int .i64 ((l.getD j 0 : Nat) : Int)) := by
  have hown := h
  rcases h.2 with ⟨_, h0⟩ | ⟨g, cap, cur, h1, h2, h3, h4, h5, _, _⟩
  · omega
  · subst h1
    refine ⟨g, cap, rfl, h2, (hown.lt g rfl).2, h4, h5, fun j hj => ?_⟩
    rw [World.ownsRow.cellAt hown j (by omega)]
    simp [valsI, List.getD, hj]
theorem IntsAt.ne {w : World} {base : Nat} {v : Value} {l : List Nat} (h : IntsAt w base v l) {b : Nat} {t : TypeId} {k : IntKind} {m : List Nat} (hb : NumsAt w b t k m) (ht : t ≠ 3) : ∀ g, v.ownBlock = some g → b ≠ g := by
  intro g hg e
  subst e
  rcases h.2 with ⟨h0, _⟩ | ⟨g, cap, cur, h1, _, h3, _⟩
  · subst h0; cases hg
  · subst h1
    cases hg
    unfold NumsAt at hb
    rw [h3] at hb
    simp only [Option.some.injEq, Obj.cells.injEq] at hb
    exact ht hb.2.1.symm
theorem NumsAt.grown {w w' : World} {row : Option Nat} {b : Nat} {t : TypeId} {k : IntKind} {l : List Nat} (h : NumsAt w b t k l) (hg : w.grownBy w' row) (hne : ∀ g, row = some g → b ≠ g) : NumsAt w' b t k l := by
  unfold NumsAt
  rw [hg.block b h.lt (fun e => hne b e.symm rfl)]
  exact h
theorem IntsAt.drew {w : World} {base : Nat} {v : Value} {l : List Nat} (h : IntsAt w base v l) : IntsAt w.drew base v l := h
theorem IntsAt.alloc {w : World} {base : Nat} {v : Value} {l : List Nat} (h : IntsAt w base v l) (o : Obj) : IntsAt (w.alloc o) base v l := World.ownsRow.alloc h o
theorem IntsAt.setCell {w : World} {base : Nat} {v : Value} {l : List Nat} (h : IntsAt w base v l) {b : Nat} {t : TypeId} {k : IntKind} {m : List Nat} (hb : NumsAt w b t k m) (ht : t ≠ 3) (o : Nat) (x : Value) : IntsAt (w.setCell ⟨b, o, none⟩ x) base v l := by
  have hne := h.ne hb ht
  obtain ⟨h1, h2⟩ := h
  refine ⟨h1, ?_⟩
  rcases h2 with h2 | ⟨g, cap, cur, a, c, d, f⟩
  · exact .inl h2
  · exact .inr ⟨g, cap, cur, a, c, by rw [setCell_block _ _ _ _ _ (hne g (by rw [a]; rfl))]; exact d, f⟩
theorem IntsAt.below {w w' : World} {base : Nat} {v : Value} {l : List Nat} (h : IntsAt w base v l) (hb : Below w.heap.size w w') : IntsAt w' base v l := by
  have hlt := h.lt
  obtain ⟨h1, h2⟩ := h
  refine ⟨h1, ?_⟩
  rcases h2 with h2 | ⟨g, cap, cur, a, c, d, f⟩
  · exact .inl h2
  · exact .inr ⟨g, cap, cur, a, c, by rw [hb.block g (hlt g (by rw [a]; rfl)).2]; exact d, f⟩
theorem infoInt : (Try.prog.info? 3).map (fun i => (i.zero, i.size, i.bytes)) = some (some (.int .i64 0), 1, 8) := by kernel_rfl
/-- An integer is appended. -/
theorem app_int {ops : Array Oper} {rest : List Oper} {o : Oper} {a : Act} {W : World} {Q : Exit → Act → World → Prop} (hgd : o.guard = none) (s x : Operand)
    (ho : o.op = .call { callee := .builtin .append, args := #[s, x], argTypes := #[79, 79] }) (dst : Option Tmp) (hdst : o.dst = dst) (base : Nat) (v : Value) (xs : List Nat) (y : Nat) (hs : a.eval s = v)
    (hown : IntsAt W base v xs) (b : Nat) (hx : a.eval x = .slice (some ⟨b, 0, none⟩) 1 1) (hb : W.cell? ⟨b, 0, none⟩ = some (.int .i64 ((y : Nat) : Int))) (hn : xs.length ≤ 1000) (hbase : base ≤ W.heap.size)
    (h : ∀ v' w', IntsAt w' base v' (xs ++ [y]) → W.grownBy w' v.ownBlock → wpList Try.prog ops Q rest (a.put dst v') w') : wpList Try.prog ops Q (o :: rest) a W := by
  cases hq : Try.prog.info? 3 with
  | none => have := infoInt; rw [hq] at this; cases this
  | some inf =>
    have hi := infoInt
    rw [hq] at hi
    simp only [Option.map_some, Option.some.injEq, Prod.mk.injEq] at hi
    obtain ⟨h1, h2, h3⟩ := hi
    refine wpList_append_own W hgd s x 79 ho base 3 inf (.int .i64 0) 1 8 Try.underlying79 hq h1 h2 h3 rfl (by omega) v xs.length (valsI xs) hs hown ⟨b, 0, none⟩ 1 1 (valsI [y]) hx rfl ?_ ?_ (by simp only [maxLen]; omega) (by omega) hbase ?_
    · intro j u hu
      match j, hu with
      | 0, hu => cases hu; exact hb
      | j + 1, hu => cases hu
    · intro u hu
      simp only [valsI, List.map_cons, List.map_nil, List.mem_singleton] at hu
      subst hu; rfl
    · intro v' w' h5 h6 _
      rw [hdst]
      refine h v' w' ?_ h6
      unfold IntsAt
      rw [List.length_append, show valsI (xs ++ [y]) = valsI xs ++ valsI [y] by simp [valsI]]
      exact h5
/-- The same in a region that draws its order. -/
theorem step_int {ops : Array Oper} {o : Oper} {a : Act} {W : World} {K : Act → World → Prop} {Q : Exit → Act → World → Prop} {E : Prop} (hgd : o.guard = none) (s x : Operand)
    (ho : o.op = .call { callee := .builtin .append, args := #[s, x], argTypes := #[79, 79] }) (dst : Option Tmp) (hdst : o.dst = dst) (base : Nat) (v : Value) (xs : List Nat) (y : Nat) (hs : a.eval s = v)
    (hown : IntsAt W base v xs) (b : Nat) (hx : a.eval x = .slice (some ⟨b, 0, none⟩) 1 1) (hb : W.cell? ⟨b, 0, none⟩ = some (.int .i64 ((y : Nat) : Int))) (hn : xs.length ≤ 1000) (hbase : base ≤ W.heap.size)
    (h : ∀ g cap w', IntsAt w' base (.slice (some ⟨g, 0, none⟩) (xs.length + 1) cap) (xs ++ [y]) → W.grownBy w' v.ownBlock → g < w'.heap.size → K (a.put dst (.slice (some ⟨g, 0, none⟩) (xs.length + 1) cap)) w') : if Region.wanted o (yielded ops a.tmps) = true then Oper.wp Try.prog o a W K Q else E := by
  cases hq : Try.prog.info? 3 with
  | none => have := infoInt; rw [hq] at this; cases this
  | some inf =>
    have hi := infoInt
    rw [hq] at hi
    simp only [Option.map_some, Option.some.injEq, Prod.mk.injEq] at hi
    obtain ⟨h1, h2, h3⟩ := hi
    refine step_append_lies W hgd s x 79 ho base 3 inf (.int .i64 0) 1 8 Try.underlying79 hq h1 h2 h3 rfl (by omega) v xs.length (valsI xs) hs hown ⟨b, 0, none⟩ 1 1 (valsI [y]) hx rfl ?_ ?_ (by omega) (by simp only [maxLen]; omega) (by omega) hbase _ rfl ?_
    · intro j u hu
      match j, hu with
      | 0, hu => cases hu; exact hb
      | j + 1, hu => cases hu
    · intro u hu
      simp only [valsI, List.map_cons, List.map_nil, List.mem_singleton] at hu
      subst hu; rfl
    · intro g cap w' h5 h6 _ h7
      rw [hdst]
      refine h g cap w' ?_ h6 h7
      unfold IntsAt
      rw [List.length_append, show valsI (xs ++ [y]) = valsI xs ++ valsI [y] by simp [valsI]]
      exact h5
end Go.Proofs.Ytnnoimikoddbcaa.Ref07
