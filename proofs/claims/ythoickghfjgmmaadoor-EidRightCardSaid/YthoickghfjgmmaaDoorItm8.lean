/-
  The walk of the reference's Bytes; what an item's bytes are.
  Conditions: the item is plain and of at most 200 items and bytes.
-/
import Derived.Test.YthoickghfjgmmaaDoorItm7
namespace Go.Proofs.YthoickghfjgmmaaDoor.Itm
open Go.ChangeShapes Go.WideShapes Go.ChangeAt Go.RowKit Go.Deep
mutual
def bytesB : Tr → List UInt8
  | .mk k n s l o => if k = 0 then headB 0 n else if k < 4 then headB k.toNat s.length ++ s else (if o then [159] else headB 4 l.length) ++ (bytesL l ++ (if o then [255] else []))
def bytesL : List Tr → List UInt8
  | [] => []
  | t :: ts => bytesB t ++ bytesL ts
end
theorem bytesL_append : ∀ a b, bytesL (a ++ b) = bytesL a ++ bytesL b
  | [], b => by simp [bytesL]
  | x :: a, b => by rw [List.cons_append, bytesL, bytesL, bytesL_append a b, List.append_assoc]
theorem bytesL_take {l : List Tr} {i : Nat} {x : Tr} (h : l[i]? = some x) : bytesL (l.take (i + 1)) = bytesL (l.take i) ++ bytesB x := by
  rw [List.take_add_one, h, bytesL_append]
  simp [bytesL]
mutual
theorem bytesB_len : ∀ t : Tr, (bytesB t).length ≤ 10 * szT t
  | .mk k n s l o => by
    have h0 := (headB_length 0 n).2
    have h1 := (headB_length k.toNat s.length).2
    have h2 := (headB_length 4 l.length).2
    have h3 := bytesL_len l
    rw [bytesB, szT]
    split
    · omega
    · split
      · simp; omega
      · cases o <;> simp <;> omega
theorem bytesL_len : ∀ l : List Tr, (bytesL l).length ≤ 10 * szL l
  | [] => by simp [bytesL]
  | t :: ts => by
    have h1 := bytesB_len t
    have h2 := bytesL_len ts
    rw [bytesL, szL, List.length_append]
    omega
end
theorem szL_take_le {l : List Tr} (i : Nat) : szL (l.take i) ≤ szL l := by
  have h := szL_append (l.take i) (l.drop i)
  rw [List.take_append_drop] at h
  omega
theorem szT_mem {l : List Tr} {i : Nat} {x : Tr} (h : l[i]? = some x) : szT x ≤ szL l := by
  have h1 := szL_take h
  have h2 := szL_take_le (l := l) (i + 1)
  omega
theorem runLdInt {o : Oper} {a : Act} {w : World} (x : Operand) (ho : o.op = .load 3 x) (p : Addr) (hx : a.eval x = .pointer (some p)) (v : Value) (hc : w.cell? p = some v) : (execOp a.eval o).run Tryd.prog w = .ok (.value v) w := by
  unfold execOp
  simp only [ho, hx]
  go_simp
theorem runLdU64 {o : Oper} {a : Act} {w : World} (x : Operand) (ho : o.op = .load 22 x) (p : Addr) (hx : a.eval x = .pointer (some p)) (v : Value) (hc : w.cell? p = some v) : (execOp a.eval o).run Tryd.prog w = .ok (.value v) w := by
  unfold execOp
  simp only [ho, hx]
  go_simp
theorem runLdStr {o : Oper} {a : Act} {w : World} (x : Operand) (ho : o.op = .load 9 x) (p : Addr) (hx : a.eval x = .pointer (some p)) (v : Value) (hc : w.cell? p = some v) : (execOp a.eval o).run Tryd.prog w = .ok (.value v) w := by
  unfold execOp
  simp only [ho, hx]
  go_simp
theorem runLdBool {o : Oper} {a : Act} {w : World} (x : Operand) (ho : o.op = .load 4 x) (p : Addr) (hx : a.eval x = .pointer (some p)) (v : Value) (hc : w.cell? p = some v) : (execOp a.eval o).run Tryd.prog w = .ok (.value v) w := by
  unfold execOp
  simp only [ho, hx]
  go_simp
theorem runConvU {o : Oper} {a : Act} {w : World} (x : Operand) (ho : o.op = .convert 3 22 x) (n : Nat) (hn : n ≤ 9223372036854775807) (hx : a.eval x = .int .i64 (n : Int)) : (execOp a.eval o).run Tryd.prog w = .ok (.value (.int .u64 n)) w := by
  have hw : IntKind.u64.wrap (n : Int) = (n : Int) := by
    simp [IntKind.wrap, IntKind.bits, IntKind.signed]
    omega
  unfold execOp
  simp only [ho, hx]
  go_simp
  try rw [hw]
set_option maxHeartbeats 3200000 in
set_option maxRecDepth 100000 in
theorem Bytes_any {w0 : World} {t : Tr} {cs : List Value} (h : TAt w0 t cs) : ∀ (w : World), Below w0.heap.size w0 w → plainB t = true → szT t ≤ 200 →
    Calls Tryd.prog 13 #[.agg cs.toArray] w fun e w' => e = .returned (.string (B (bytesB t))) ∧ Below w.heap.size w w' := by
  induction h with
  | mk k tn s l o a c C hn hs hl hat hel ih =>
    intro w hbw hp hsz
    rw [plainB_eq] at hp
    obtain ⟨hok, hall⟩ := Bool.and_eq_true_iff.1 hp
    obtain ⟨n, hln⟩ : ∃ n, l.length = n := ⟨_, rfl⟩
    have hok2 : okN k tn s n o = true := by rw [← hln]; exact hok
    have HN := Lib.hid hln
    have HAT := Lib.hid hat
    have IH := Lib.hid ih
    have HEL := Lib.hid hel
    have HALL := Lib.hid hall
    have HSZ := Lib.hid hsz
    have hsz2 : szT (.mk k tn s l o) = 1 + s.length + szL l := by rw [szT]
    have hsl : s.length ≤ 200 := by omega
    have HSL : Hid (szL l ≤ 200) := Lib.hid (by omega)
    have HBB : Hid (bytesB (.mk k tn s l o) = if k = 0 then headB 0 tn else if k < 4 then headB k.toNat s.length ++ s else (if o then [159] else headB 4 n) ++ (bytesL l ++ (if o then [255] else []))) := Lib.hid (by rw [bytesB, hln])
    generalize bytesB (.mk k tn s l o) = bb at *
    rw [hln] at hl
    rw [hln]
    have HBW := Lib.hid hbw
    have HTN := Lib.hid hn
    clear hln hat ih hel hl hs hbw hp hn hok hall hsz hsz2
    obtain ⟨w1, hw1⟩ : ∃ w1, w.alloc (.cells #[.int .i64 k, .int .u64 tn, .string (B s), .slice a n c, .bool o] 29) = w1 := ⟨_, rfl⟩
    have gS : w1.heap.size = w.heap.size + 1 := by rw [← hw1]; show (w.heap.push _).size = _; simp
    have gb : Below w.heap.size w w1 := by rw [← hw1]; exact (Below.refl _ _).alloc (Nat.le_refl _) _
    have g0 : w1.cell? ⟨w.heap.size, 0, none⟩ = some (.int .i64 k) := by rw [← hw1, cell_of_row _ _ _ _ _ _ (heap_alloc_last w _)]; rfl
    have g1 : w1.cell? ⟨w.heap.size, 1, none⟩ = some (.int .u64 tn) := by rw [← hw1, cell_of_row _ _ _ _ _ _ (heap_alloc_last w _)]; rfl
    have g2 : w1.cell? ⟨w.heap.size, 2, none⟩ = some (.string (B s)) := by rw [← hw1, cell_of_row _ _ _ _ _ _ (heap_alloc_last w _)]; rfl
    have g3 : w1.cell? ⟨w.heap.size, 3, none⟩ = some (.slice a n c) := by rw [← hw1, cell_of_row _ _ _ _ _ _ (heap_alloc_last w _)]; rfl
    have g4 : w1.cell? ⟨w.heap.size, 4, none⟩ = some (.bool o) := by rw [← hw1, cell_of_row _ _ _ _ _ _ (heap_alloc_last w _)]; rfl
    have G3 := Lib.hid g3
    have G4 := Lib.hid g4
    have GB := Lib.hid gb
    have hlt0 : w.heap.size < w1.heap.size := by omega
    clear gb
    go_enter Tryd.func13, Tryd.ntmps13
    go_upto_region 1 with fail
    clear hw1
    rcases okN_true hok2 with ⟨rfl, rfl, rfl, rfl⟩ | ⟨rfl, rfl, rfl, rfl⟩ | ⟨rfl, rfl, rfl, rfl⟩ | ⟨rfl, rfl, rfl, hle⟩
    · have hv : bb = headB 0 tn := HBB.out
      subst hv
      clear hok2
      go_wp2_with fail
      refine (Head_any 0 tn w1 (by omega) HTN.out).mono ?_
      rintro e w2 ⟨rfl, hb2⟩
      have HE := Lib.hid (GB.out.trans (hb2.mono (by omega)))
      clear hb2
      go_wp2
      go_ret
      exact ⟨rfl, HE.out⟩
    · have hv : bb = headB 2 s.length ++ s := HBB.out
      subst hv
      clear hok2
      have hs63 : s.length ≤ 9223372036854775807 := by omega
      have hL := headB_length 2 s.length
      go_wp2_with fail
      have hS0 : Below w1.heap.size w1 w1.drew := (Below.refl _ _).drew
      refine wp_region_held (S := fun W => Below w1.heap.size w1 W) (by kernel_rfl) ?_
      change wpAnyH _ _ _ _ _ _ _ _ w1.drew
      refine takeH 0 rfl rfl (some 14) rfl (.pointer (some ⟨w.heap.size, 0, none⟩)) (by kernel_rfl) (by kernel_rfl) (by kernel_rfl) (fun _ _ _ h => h) (fun _ _ => by kernel_rfl) hS0 ?_
      simp only [Act.put, List.setIfInBounds_toArray, List.set_cons_zero, List.set_cons_succ]
      refine takeH 1 rfl rfl (some 15) rfl (.int .i64 2) (by kernel_rfl) (by kernel_rfl) (by kernel_rfl) (fun _ _ _ h => h) (fun W hW => runLdInt (.tmp 14) rfl ⟨w.heap.size, 0, none⟩ rfl _ (by rw [hW.cell (p := ⟨w.heap.size, 0, none⟩) hlt0]; exact g0)) hS0 ?_
      simp only [Act.put, List.setIfInBounds_toArray, List.set_cons_zero, List.set_cons_succ]
      refine takeH 2 rfl rfl (some 16) rfl (.pointer (some ⟨w.heap.size, 2, none⟩)) (by kernel_rfl) (by kernel_rfl) (by kernel_rfl) (fun _ _ _ h => h) (fun _ _ => by kernel_rfl) hS0 ?_
      simp only [Act.put, List.setIfInBounds_toArray, List.set_cons_zero, List.set_cons_succ]
      refine takeH 3 rfl rfl (some 17) rfl (.string (B s)) (by kernel_rfl) (by kernel_rfl) (by kernel_rfl) (fun _ _ _ h => h) (fun W hW => runLdStr (.tmp 16) rfl ⟨w.heap.size, 2, none⟩ rfl _ (by rw [hW.cell (p := ⟨w.heap.size, 2, none⟩) hlt0]; exact g2)) hS0 ?_
      simp only [Act.put, List.setIfInBounds_toArray, List.set_cons_zero, List.set_cons_succ]
      refine takeH 4 rfl rfl (some 18) rfl (.int .i64 (s.length : Int)) (by kernel_rfl) (by kernel_rfl) (by kernel_rfl) (fun _ _ _ h => h) (fun _ _ => by kernel_rfl) hS0 ?_
      simp only [Act.put, List.setIfInBounds_toArray, List.set_cons_zero, List.set_cons_succ]
      refine takeH 5 rfl rfl (some 19) rfl (.int .u64 (s.length : Int)) (by kernel_rfl) (by kernel_rfl) (by kernel_rfl) (fun _ _ _ h => h) (fun _ _ => runConvU (.tmp 18) rfl s.length hs63 rfl) hS0 ?_
      simp only [Act.put, List.setIfInBounds_toArray, List.set_cons_zero, List.set_cons_succ]
      refine takeH 7 rfl rfl (some 21) rfl (.pointer (some ⟨w.heap.size, 2, none⟩)) (by kernel_rfl) (by kernel_rfl) (by kernel_rfl) (fun _ _ _ h => h) (fun _ _ => by kernel_rfl) hS0 ?_
      simp only [Act.put, List.setIfInBounds_toArray, List.set_cons_zero, List.set_cons_succ]
      refine takeH 8 rfl rfl (some 22) rfl (.string (B s)) (by kernel_rfl) (by kernel_rfl) (by kernel_rfl) (fun _ _ _ h => h) (fun W hW => runLdStr (.tmp 21) rfl ⟨w.heap.size, 2, none⟩ rfl _ (by rw [hW.cell (p := ⟨w.heap.size, 2, none⟩) hlt0]; exact g2)) hS0 ?_
      simp only [Act.put, List.setIfInBounds_toArray, List.set_cons_zero, List.set_cons_succ]
      refine oneH 6 rfl rfl (by kernel_rfl) fun K hK => ?_
      refine wpH_call (some 20) rfl 25 #[.int .i64 2, .int .u64 (s.length : Int)] (by kernel_rfl) _ _ (Head_any 2 s.length _ (by omega) (by unfold W64; omega)) fun Wc hWc => ?_
      simp only [Act.put, List.setIfInBounds_toArray, List.set_cons_zero, List.set_cons_succ]
      have hC : Below w1.heap.size w1 Wc := hS0.trans (hWc.mono hS0.size)
      refine hK _ _ hC fun _ => ?_
      clear hK K
      refine takeH 9 rfl rfl (some 23) rfl (.string (B (headB 2 s.length ++ s))) (by kernel_rfl) (by kernel_rfl) (by kernel_rfl) (fun _ _ _ h => h) (fun _ _ => runCat (.tmp 20) (.tmp 22) _ rfl _ _ rfl rfl (by omega)) hC ?_
      simp only [Act.put, List.setIfInBounds_toArray, List.set_cons_zero, List.set_cons_succ]
      refine takeH 10 rfl rfl (some 2) rfl (.string (B (headB 2 s.length ++ s))) (by kernel_rfl) (by kernel_rfl) (by kernel_rfl) (fun _ _ _ h => h) (fun _ _ => by kernel_rfl) hC ?_
      simp only [Act.put, List.setIfInBounds_toArray, List.set_cons_zero, List.set_cons_succ]
      refine wpAnyH_done (by kernel_rfl) ?_ _
      have HE := Lib.hid (GB.out.trans (hC.mono (by omega)))
      obtain ⟨R, hR⟩ : ∃ R, headB 2 s.length ++ s = R := ⟨_, rfl⟩
      have HR := Lib.hid hR
      rw [hR]
      clear hC hS0 hL hR
      go_wp2
      go_ret
      exact ⟨by rw [HR.out]; rfl, HE.out⟩
    · have hv : bb = headB 3 s.length ++ s := HBB.out
      subst hv
      clear hok2
      have hs63 : s.length ≤ 9223372036854775807 := by omega
      have hL := headB_length 3 s.length
      go_wp2_with fail
      have hS0 : Below w1.heap.size w1 w1.drew := (Below.refl _ _).drew
      refine wp_region_held (S := fun W => Below w1.heap.size w1 W) (by kernel_rfl) ?_
      change wpAnyH _ _ _ _ _ _ _ _ w1.drew
      refine takeH 0 rfl rfl (some 14) rfl (.pointer (some ⟨w.heap.size, 0, none⟩)) (by kernel_rfl) (by kernel_rfl) (by kernel_rfl) (fun _ _ _ h => h) (fun _ _ => by kernel_rfl) hS0 ?_
      simp only [Act.put, List.setIfInBounds_toArray, List.set_cons_zero, List.set_cons_succ]
      refine takeH 1 rfl rfl (some 15) rfl (.int .i64 3) (by kernel_rfl) (by kernel_rfl) (by kernel_rfl) (fun _ _ _ h => h) (fun W hW => runLdInt (.tmp 14) rfl ⟨w.heap.size, 0, none⟩ rfl _ (by rw [hW.cell (p := ⟨w.heap.size, 0, none⟩) hlt0]; exact g0)) hS0 ?_
      simp only [Act.put, List.setIfInBounds_toArray, List.set_cons_zero, List.set_cons_succ]
      refine takeH 2 rfl rfl (some 16) rfl (.pointer (some ⟨w.heap.size, 2, none⟩)) (by kernel_rfl) (by kernel_rfl) (by kernel_rfl) (fun _ _ _ h => h) (fun _ _ => by kernel_rfl) hS0 ?_
      simp only [Act.put, List.setIfInBounds_toArray, List.set_cons_zero, List.set_cons_succ]
      refine takeH 3 rfl rfl (some 17) rfl (.string (B s)) (by kernel_rfl) (by kernel_rfl) (by kernel_rfl) (fun _ _ _ h => h) (fun W hW => runLdStr (.tmp 16) rfl ⟨w.heap.size, 2, none⟩ rfl _ (by rw [hW.cell (p := ⟨w.heap.size, 2, none⟩) hlt0]; exact g2)) hS0 ?_
      simp only [Act.put, List.setIfInBounds_toArray, List.set_cons_zero, List.set_cons_succ]
      refine takeH 4 rfl rfl (some 18) rfl (.int .i64 (s.length : Int)) (by kernel_rfl) (by kernel_rfl) (by kernel_rfl) (fun _ _ _ h => h) (fun _ _ => by kernel_rfl) hS0 ?_
      simp only [Act.put, List.setIfInBounds_toArray, List.set_cons_zero, List.set_cons_succ]
      refine takeH 5 rfl rfl (some 19) rfl (.int .u64 (s.length : Int)) (by kernel_rfl) (by kernel_rfl) (by kernel_rfl) (fun _ _ _ h => h) (fun _ _ => runConvU (.tmp 18) rfl s.length hs63 rfl) hS0 ?_
      simp only [Act.put, List.setIfInBounds_toArray, List.set_cons_zero, List.set_cons_succ]
      refine takeH 7 rfl rfl (some 21) rfl (.pointer (some ⟨w.heap.size, 2, none⟩)) (by kernel_rfl) (by kernel_rfl) (by kernel_rfl) (fun _ _ _ h => h) (fun _ _ => by kernel_rfl) hS0 ?_
      simp only [Act.put, List.setIfInBounds_toArray, List.set_cons_zero, List.set_cons_succ]
      refine takeH 8 rfl rfl (some 22) rfl (.string (B s)) (by kernel_rfl) (by kernel_rfl) (by kernel_rfl) (fun _ _ _ h => h) (fun W hW => runLdStr (.tmp 21) rfl ⟨w.heap.size, 2, none⟩ rfl _ (by rw [hW.cell (p := ⟨w.heap.size, 2, none⟩) hlt0]; exact g2)) hS0 ?_
      simp only [Act.put, List.setIfInBounds_toArray, List.set_cons_zero, List.set_cons_succ]
      refine oneH 6 rfl rfl (by kernel_rfl) fun K hK => ?_
      refine wpH_call (some 20) rfl 25 #[.int .i64 3, .int .u64 (s.length : Int)] (by kernel_rfl) _ _ (Head_any 3 s.length _ (by omega) (by unfold W64; omega)) fun Wc hWc => ?_
      simp only [Act.put, List.setIfInBounds_toArray, List.set_cons_zero, List.set_cons_succ]
      have hC : Below w1.heap.size w1 Wc := hS0.trans (hWc.mono hS0.size)
      refine hK _ _ hC fun _ => ?_
      clear hK K
      refine takeH 9 rfl rfl (some 23) rfl (.string (B (headB 3 s.length ++ s))) (by kernel_rfl) (by kernel_rfl) (by kernel_rfl) (fun _ _ _ h => h) (fun _ _ => runCat (.tmp 20) (.tmp 22) _ rfl _ _ rfl rfl (by omega)) hC ?_
      simp only [Act.put, List.setIfInBounds_toArray, List.set_cons_zero, List.set_cons_succ]
      refine takeH 10 rfl rfl (some 2) rfl (.string (B (headB 3 s.length ++ s))) (by kernel_rfl) (by kernel_rfl) (by kernel_rfl) (fun _ _ _ h => h) (fun _ _ => by kernel_rfl) hC ?_
      simp only [Act.put, List.setIfInBounds_toArray, List.set_cons_zero, List.set_cons_succ]
      refine wpAnyH_done (by kernel_rfl) ?_ _
      have HE := Lib.hid (GB.out.trans (hC.mono (by omega)))
      obtain ⟨R, hR⟩ : ∃ R, headB 3 s.length ++ s = R := ⟨_, rfl⟩
      have HR := Lib.hid hR
      rw [hR]
      clear hC hS0 hL hR
      go_wp2
      go_ret
      exact ⟨by rw [HR.out]; rfl, HE.out⟩
    · have hv : bb = (if o then [159] else headB 4 n) ++ (bytesL l ++ (if o then [255] else [])) := HBB.out
      have HV := Lib.hid hv
      clear hok2 HBB hv
      have hle2 : (n : Int) ≤ 1000 := by omega
      obtain ⟨hd, hhd⟩ : ∃ hd, (if o then [159] else headB 4 n) = hd := ⟨_, rfl⟩
      have hdl : hd.length ≤ 9 := by
        rw [← hhd]
        have := (headB_length 4 n).2
        cases o
        · simpa using this
        · simp
      have HHD := Lib.hid hhd
      rw [hhd] at HV
      have HBL := Lib.hid fun i => show (bytesL (l.take i)).length ≤ 2000 by
        have h1 := bytesL_len (l.take i)
        have h2 := szL_take_le (l := l) i
        have := HSL.out
        omega
      have HBL2 := Lib.hid fun (i : Nat) (x : Tr) (h : l[i]? = some x) => show (bytesB x).length ≤ 2000 by
        have h1 := bytesB_len x
        have h2 := szT_mem h
        have := HSL.out
        omega
      clear hhd
      have gS1 := GB.out
      go_wp2_with fail
      refine (Head_any 4 n w1 (by omega) (by unfold W64; omega)).mono ?_
      rintro e w2 ⟨rfl, hb2⟩
      have hs2 := hb2.size
      have c3 : w2.cell? ⟨w.heap.size, 3, none⟩ = some (.slice a n c) := by rw [hb2.cell (p := ⟨w.heap.size, 3, none⟩) hlt0]; exact g3
      have c4 : w2.cell? ⟨w.heap.size, 4, none⟩ = some (.bool o) := by rw [hb2.cell (p := ⟨w.heap.size, 4, none⟩) hlt0]; exact g4
      have H2 := Lib.hid (GB.out.trans (hb2.mono (by omega)))
      have hlt2 : w.heap.size < w2.heap.size := by omega
      clear g3 g4 G3 G4 hb2 gS1 GB
      obtain ⟨h4, hh4⟩ : ∃ h4, headB 4 n = h4 := ⟨_, rfl⟩
      rw [hh4] at HHD ⊢
      clear hh4
      go_upto_region 6 with fail
      cases o
      all_goals
        go_wp2_with fail
        go_loopw [3, 4] (fun s3 s4 wr => ∃ (i : Nat) (S : List UInt8), i ≤ n ∧ s4 = .int .i64 (i : Int) ∧ s3 = .string (B S) ∧ Hid (S = hd ++ bytesL (l.take i)) ∧ Below w2.heap.size w2 wr) (fun _ s _ => n - (intOf s).toNat)
        case atStart => exact ⟨0, hd, by omega, rfl, by rw [← HHD.out]; rfl, Lib.hid (by simp [bytesL]), Below.refl _ _⟩
        case round =>
          obtain ⟨i, S, hi, rfl, rfl, HS, hb⟩ := hrel
          have hbs := hb.size
          have d3 : wr.cell? ⟨w.heap.size, 3, none⟩ = some (.slice a n c) := by rw [hb.cell (p := ⟨w.heap.size, 3, none⟩) hlt2]; exact c3
          have d4 := (hb.cell (p := ⟨w.heap.size, 4, none⟩) hlt2).trans c4
          have HE := Lib.hid (H2.out.trans (hb.mono (by omega)))
          have hSl : S.length ≤ 2009 := by
            rw [HS.out, List.length_append]
            have := HBL.out i
            omega
          by_cases hend : i = n
          · have hlt : ¬ (i : Int) < (n : Int) := by omega
            have hfin := HS.out
            rw [hend, ← HN.out, List.take_length] at hfin
            have hbb := HV.out
            rw [← List.append_assoc, ← hfin] at hbb
            have HBBF := Lib.hid hbb
            clear hend hb hfin hbb c3 c4
            go_wp2
            go_ret
            exact ⟨by rw [HBBF.out]; first | rfl | simp, HE.out⟩
          · have hlt : (i : Int) < (n : Int) := by omega
            obtain ⟨x, hx⟩ : ∃ x, l[i]? = some x := ⟨l[i]'(by rw [HN.out]; omega), List.getElem?_eq_getElem (by rw [HN.out]; omega)⟩
            obtain ⟨b, f, rfl, hbl, hra⟩ := HAT.out i (by rw [HN.out]; omega)
            have hb0 : Below w0.heap.size w0 wr := HBW.out.trans (HE.out.mono HBW.out.size)
            have HRA := Lib.hid (rangeAt_below hra hb0 hbl)
            have hc5 : (C i).length = 5 := by obtain ⟨_, _, _, he, _⟩ := (HEL.out i x hx).form; rw [he]; rfl
            have hpx : plainB x = true := List.all_eq_true.1 HALL.out x (List.mem_of_getElem? hx)
            have HC := Lib.hid (IH.out i x hx wr hb0 hpx (by have := szT_mem hx; have := HSL.out; omega))
            have HC5 := Lib.hid hc5
            have HB1 := Lib.hid hb
            have HS2 : Hid (S ++ bytesB x = hd ++ bytesL (l.take (i + 1))) := Lib.hid (by rw [bytesL_take hx, HS.out, List.append_assoc])
            have hxl := HBL2.out i x hx
            clear hend hx hra hb0 hc5 hb hpx c3 c4 d4
            generalize bytesB x = px at *
            go_wp2_with (with_reducible refine stop_load 29 rfl ?_)
            refine load_mid 29 (.tmp 42) rfl rfl (some 43) rfl b (f + i * 5) rfl (C i).toArray HRA.out _ Tryd.underlying29 rfl (by rw [List.size_toArray, HC5.out]; exact infoI) ?_
            go_wp2_with fail
            refine HC.out.mono ?_
            rintro e w3 ⟨rfl, hb3⟩
            have HW := Lib.hid (HB1.out.trans (hb3.mono hbs))
            clear hb3 HB1 HC
            go_wp2
            go_round
            case rel => exact ⟨i + 1, S ++ px, by omega, by go_num, rfl, HS2, HW.out⟩
            case measure => simp [intOf]; omega
end Go.Proofs.YthoickghfjgmmaaDoor.Itm
