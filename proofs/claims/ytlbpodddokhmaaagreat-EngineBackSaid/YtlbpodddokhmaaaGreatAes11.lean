/-
  AES: the walk of write.
  Conditions: bytes.
-/
import Derived.Test.YtlbpodddokhmaaaGreatAes10
import Derived.Test.YtlbpodddokhmaaaGreatHeld
namespace Go.Proofs.YtlbpodddokhmaaaGreat.Aes
open Go.ChangeShapes Go.WideShapes Go.ChangeAt Go.RowKit Go.Deep Go.Great
theorem info1 : (Tryz.prog.info? 5).map (fun i => (i.zero, i.size, i.bytes)) = some (some (.int .u8 0), 1, 1) := by kernel_rfl
/-- Bytes are appended. -/
theorem app_bytes {ops : Array Oper} {rest : List Oper} {o : Oper} {a : Act} {W : World} {Q : Exit → Act → World → Prop} (hgd : o.guard = none) (s x : Operand)
    (ho : o.op = .call { callee := .builtin .append, args := #[s, x], argTypes := #[73, 73] }) (dst : Option Tmp) (hdst : o.dst = dst) (base : Nat) (v : Value) (n m c : Nat) (xs wd : List Nat) (hs : a.eval s = v)
    (hown : W.ownsRow base 5 1 v n (vals xs)) (b : Nat) (hwl : wd.length = m) (hx : a.eval x = .slice (some ⟨b, 0, none⟩) m c) (t : TypeId) (hb : W.heap[b]? = some (.cells (nums .u8 wd) t (0, 0))) (hn : n + m ≤ 1000000) (hbase : base ≤ W.heap.size)
    (h : ∀ v' w', w'.ownsRow base 5 1 v' (n + m) (vals (xs ++ wd)) → W.grownBy w' v.ownBlock → wpList Tryz.prog ops Q rest (a.put dst v') w') : wpList Tryz.prog ops Q (o :: rest) a W := by
  cases hq : Tryz.prog.info? 5 with
  | none => have := info1; rw [hq] at this; cases this
  | some inf =>
    have hi := info1
    rw [hq] at hi
    simp only [Option.map_some, Option.some.injEq, Prod.mk.injEq] at hi
    obtain ⟨h1, h2, h3⟩ := hi
    refine wpList_append_own W hgd s x 73 ho base 5 inf (.int .u8 0) 1 1 Tryz.underlying73 hq h1 h2 h3 rfl (by omega) v n (vals xs) hs hown ⟨b, 0, none⟩ m c (vals wd) hx (by rw [vals_length, hwl]; omega) ?_ (vals_one wd) (by simp only [maxLen]; omega) (by omega) hbase ?_
    · intro j u hu
      have e1 : (⟨b, 0, none⟩ : Addr).add j = ⟨b, j, none⟩ := by simp [Addr.add]; omega
      rw [e1, cell_of_row W b j _ _ _ hb]
      exact vals_get hu
    · intro v' w' h5 h6 _
      rw [hdst]
      exact h v' w' (by rw [vals_append]; exact h5) h6
theorem take4 (l : List Nat) (k : Nat) (h : k + 4 ≤ l.length) : l.take (k + 4) = l.take k ++ [l.getD k 0, l.getD (k + 1) 0, l.getD (k + 2) 0, l.getD (k + 3) 0] := by
  rw [List.take_add]
  congr 1
  apply list_ext (by simp; omega)
  intro i hi
  have hi : i < 4 := by simp at hi; omega
  have e : ((l.drop k).take 4).getD i 0 = l.getD (k + i) 0 := by
    simp [List.getD, hi]
  rw [e]
  match i, hi with
  | 0, _ => rfl
  | 1, _ => rfl
  | 2, _ => rfl
  | 3, _ => rfl
  | i + 4, h => exact absurd h (by omega)
/-- A row of an array of rows by value. -/
theorem index_row (W : World) (s : List Nat) (i : Nat) (hs : s.length = 16) (hi : i < 4) : (Instr.index 149 (.agg (nums .u8 s)) (.int .i64 (i : Int))).run Tryz.prog W = .ok (.agg #[.int .u8 ((s.getD (i * 4) 0 : Nat) : Int), .int .u8 ((s.getD (i * 4 + 1) 0 : Nat) : Int), .int .u8 ((s.getD (i * 4 + 2) 0 : Nat) : Int), .int .u8 ((s.getD (i * 4 + 3) 0 : Nat) : Int)]) W := by
  have h2 : (i : Int) < 4 := by omega
  cases hq : Tryz.prog.info? 147 with
  | none => have := info4; rw [hq] at this; cases this
  | some inf =>
    have hi4 := info4
    rw [hq] at hi4
    simp only [Option.map_some, Option.some.injEq, Prod.mk.injEq] at hi4
    have hsz := hi4.2.1
    have hagg : (isAgg 147).run Tryz.prog W = .ok true W := by
      unfold isAgg
      rw [Sem.run_bind, run_underlying Tryz.underlying147 W]
      simp
    have e : (nums .u8 s).extract (i * 4) (i * 4 + 4) = #[.int .u8 ((s.getD (i * 4) 0 : Nat) : Int), .int .u8 ((s.getD (i * 4 + 1) 0 : Nat) : Int), .int .u8 ((s.getD (i * 4 + 2) 0 : Nat) : Int), .int .u8 ((s.getD (i * 4 + 3) 0 : Nat) : Int)] := by
      rw [nums4]
      unfold nums
      rw [List.extract_toArray]
      have e6 : ∀ l l' : List Value, l = l' → l.toArray = l'.toArray := fun _ _ h => by rw [h]
      refine e6 _ _ ?_
      rw [List.extract_eq_take_drop, show i * 4 + 4 - i * 4 = 4 by omega, ← List.map_drop, ← List.map_take]
      have h4 := take4 s (i * 4) (by omega)
      rw [List.take_add] at h4
      rw [List.append_cancel_left h4]
    simp [Instr.index, asIntOf, run_underlying Tryz.underlying149, part, hagg, sizeOf, typeInfo, hq, hsz, Sem.run_bind, Result.andThen, e]
    omega
set_option maxRecDepth 100000 in
theorem write_any (s : List Nat) (w : World) (hs : s.length = 16) : Calls Tryz.prog 109 #[.agg (nums .u8 s)] w fun e w' => e = .returned (.string (NB s)) ∧ Below w.heap.size w w' := by
  have HS := Lib.hid hs
  go_enter Tryz.func109, Tryz.ntmps109
  go_upto_region 2 with fail
  apply wp_region_lit
  refine wpList_load_rowTo rfl (some 6) rfl 149 _ rfl w.heap.size rfl (nums .u8 s) 149 (0, 0) (heap_alloc_last w _) (.array 4 147) Tryz.underlying149 rfl (by rw [nums_size, hs]; kernel_rfl) ?_
  go_wp2
  go_loopw [3, 7] (fun s3 s7 wr => ∃ i : Nat, i ≤ 4 ∧ s7 = .int .i64 i ∧ wr.ownsRow w.heap.size 5 1 s3 (i * 4) (vals (s.take (i * 4))) ∧ Below w.heap.size w wr) (fun _ s _ => 4 - (intOf s).toNat)
  case atStart => exact ⟨0, by omega, rfl, World.ownsRow_nil _ _ _ _, (Below.refl _ _).alloc (Nat.le_refl _) _⟩
  case round =>
    obtain ⟨i, hi, rfl, hown, hbel⟩ := hrel
    have HOWN := Lib.hid hown
    have HBEL := Lib.hid hbel
    by_cases h4 : i = 4
    · subst h4
      obtain ⟨g, cap, rfl, _, hg⟩ := hown.form (by omega)
      have hcell : ∀ x, x < 16 → wr.cell? ⟨g, x, none⟩ = some (.int .u8 ((s.getD x 0 : Nat) : Int)) := fun x hx => by
        rw [hown.cellAt x (by omega)]
        simp [vals, List.getD, hs, hx]
      have hconv := string_of (P := Tryz.prog) wr 73 9 5 ⟨g, 0, none⟩ 16 cap s Tryz.underlying73 Tryz.underlying5 Tryz.underlying9 hs (fun x hx => by
        have e1 : (⟨g, 0, none⟩ : Addr).add x = ⟨g, x, none⟩ := by simp [Addr.add]; omega
        rw [e1]; exact hcell x hx)
      clear hown hbel hcell
      go_wp2
      go_ret
      exact ⟨rfl, HBEL.out⟩
    · have hlt : (i : Int) < 4 := by omega
      have hi4 : i < 4 := by omega
      have hidx := fun W => index_row W s i hs hi4
      have hnext := take4 s (i * 4) (by omega)
      generalize s.getD (i * 4) 0 = y0 at *
      generalize s.getD (i * 4 + 1) 0 = y1 at *
      generalize s.getD (i * 4 + 2) 0 = y2 at *
      generalize s.getD (i * 4 + 3) 0 = y3 at *
      have HN := Lib.hid hnext
      clear hown hbel hnext
      go_wp2_with (at_builtin; refine RowKit.Hid.out ?_)
      refine Lib.hid ?_
      rw [nums4]
      have hbW : Below w.heap.size w (wr.alloc (.cells (nums .u8 [y0, y1, y2, y3]) 147)) := HBEL.out.alloc HBEL.out.size _
      refine app_bytes rfl (.tmp 10) (.tmp 11) rfl (some 12) rfl w.heap.size u3 (i * 4) 4 4 (s.take (i * 4)) [y0, y1, y2, y3] rfl (HOWN.out.alloc _) wr.heap.size rfl rfl 147 (heap_alloc_last wr _) (by omega) hbW.size ?_
      intro v' w' hown' hg'
      have HO2 := Lib.hid hown'
      have HB2 := Lib.hid (below_grown hbW hbW.size hg' (fun k hk => (HOWN.out.lt k hk).1))
      clear hown' hg' hbW hidx
      go_wp2
      go_round
      case rel =>
        refine ⟨i + 1, by omega, by go_num, ?_, HB2.out⟩
        rw [show (i + 1) * 4 = i * 4 + 4 by omega, HN.out]
        exact HO2.out
      case measure => simp [intOf]; omega
end Go.Proofs.YtlbpodddokhmaaaGreat.Aes
