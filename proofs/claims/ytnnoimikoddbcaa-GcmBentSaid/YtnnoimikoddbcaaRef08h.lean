/-
  The walk of the reference Turn.
  Conditions: named at each.
-/
import Derived.Test.YtnnoimikoddbcaaRef07e
import Derived.Test.YtnnoimikoddbcaaRef08g
namespace Go.Proofs.Ytnnoimikoddbcaa.Ref08
open Go.ChangeShapes Go.WideShapes Go.ChangeAt Go.RowKit Go.Deep Go.Proofs.Ytnnoimikoddbcaa.Gf
open Go.Proofs.Ytnnoimikoddbcaa.Aes (subT subT_length subT_bytes wordsL wordsL_length wordsL_bytes stop_store zeros zeros_length)
open Go.Proofs.Ytnnoimikoddbcaa.Ref07 (IntsAt)
theorem runMake {P : Program} {o : Oper} {a : Act} {w w' : World} (t : TypeId) (x y : Operand) (ho : o.op = .makeSlice t x y) (vx vy v : Value) (hx : a.eval x = vx) (hy : a.eval y = vy) (hrun : (Instr.makeSlice t vx vy).run P w = .ok v w') :
    (execOp a.eval o).run P w = .ok (.value v) w' := by
  subst hx hy
  unfold execOp
  simp only [ho, Sem.run_bind, Sem.run_pure, hrun, Result.andThen_ok]
theorem runConv {P : Program} {o : Oper} {a : Act} {w w' : World} (s t : TypeId) (x : Operand) (ho : o.op = .convert s t x) (vx v : Value) (hx : a.eval x = vx) (hrun : (convert s t vx).run P w = .ok v w') :
    (execOp a.eval o).run P w = .ok (.value v) w' := by
  subst hx
  unfold execOp
  simp only [ho, Sem.run_bind, Sem.run_pure, hrun, Result.andThen_ok]
theorem Table_run (w : World) : Calls Try.prog 46 #[] w fun e w' => e = .returned (.agg (nums .i64 subT)) ∧ Below w.heap.size w w' := Ref07.Table_any w
theorem Words_run (key : List UInt8) (w : World) (hk : keyOk key) : Calls Try.prog 47 #[.agg (nums .i64 subT), .string (B key)] w fun e w' => ∃ v, e = .returned v ∧ IntsAt w' w.heap.size v (ws key) ∧ Below w.heap.size w w' :=
  Ref07.Words_any key (key.length / 4) w (by rcases hk with h | h <;> omega) (by rcases hk with h | h <;> omega)
theorem Do_run (key b : List UInt8) (v : Value) (base : Nat) (w : World) (hk : keyOk key) (hb : b.length = 16) (hw : IntsAt w base v (ws key)) : Calls Try.prog 48 #[.agg (nums .i64 subT), v, .string (B b)] w fun e w' => e = .returned (.string (B (E key b))) ∧ Below w.heap.size w w' :=
  Ref07.Do_any b (ws key) v base (rr key) w hb hw (by rw [ws, wordsL_length]; omega) (wordsL_bytes subT_bytes _ _ _) (by unfold rr; rcases hk with h | h <;> omega)
set_option maxHeartbeats 1600000 in
set_option maxRecDepth 100000 in
theorem Turn_any (key nonce a t : List UInt8) (sealed : Bool) (w : World) (hk : keyOk key) (_hn : 8 ≤ nonce.length) (hn2 : nonce.length ≤ 16) (ha : a.length ≤ 1000000) (ht : t.length ≤ 1000000) :
    Calls Try.prog 36 #[.string (B key), .string (B nonce), .string (B a), .string (B t), .bool sealed] w fun e w' =>
      e = .returned (.tuple #[.string (B (streamB key (firstB key nonce) t)), .string (B (tagB key (firstB key nonce) a (if sealed then t else streamB key (firstB key nonce) t)))]) ∧ Below w.heap.size w w' := by
  have HT := Lib.hid Table_run
  have HW := Lib.hid fun W => Words_run key W hk
  have HD := Lib.hid fun b v base W => Do_run key b v base W hk
  have hTL := subT_length
  clear hk
  generalize subT = T at *
  go_enter Try.func36, Try.ntmps36
  go_wp2_with fail
  refine Calls.below (HT.out _) fun W1 hW1 => ?_
  go_wp2_with (with_reducible refine stop_store (t := 77) rfl ?_)
  refine Lib.hid ?_
  have hz256 : (nums .i64 (zeros 256)) = Try.zeroCells77 := by kernel_rfl
  rw [← hz256]
  refine wpList_store_rowTo rfl 77 _ _ rfl rfl W1.heap.size (nums .i64 T) rfl rfl 77 (nums .i64 (zeros 256)) (heap_alloc_last W1 _) (by rw [nums_size, hTL]; kernel_rfl) (by rw [nums_size, nums_size, hTL, zeros_length]) (nums_oneCell _ _) ?_
  rw [World.setRow_alloc_new]
  have htb := NumsAt.new W1 77 .i64 T
  have hbel : Below w.heap.size w (W1.alloc (.cells (nums .i64 T) 77)) := hW1.alloc hW1.size _
  generalize W1.alloc (.cells (nums .i64 T) 77) = W1b at *
  generalize W1.heap.size = tb at *
  clear hW1 W1
  go_upto_region 2 with fail
  apply wp_region_lit (l := [_, _, _, _])
  refine wpList_load_rowTo rfl _ rfl 77 _ rfl tb rfl (nums .i64 T) 77 (0, 0) htb _ Try.underlying77 rfl (by rw [nums_size, hTL]; kernel_rfl) ?_
  go_wp2_with fail
  refine Calls.mono (HW.out _) ?_
  rintro _ W2 ⟨v, rfl, hws, hb2⟩
  replace htb := htb.below hb2
  have HBEL := Lib.hid (hbel.trans (hb2.mono hbel.size))
  generalize W1b.heap.size = base at *
  clear hb2 hbel HT HW W1b
  have hvo : ∃ v', v' = v := ⟨v, rfl⟩
  have HDO := Lib.hid (show ∀ b W, b.length = 16 → Below W2.heap.size W2 W → Calls Try.prog 48 #[.agg (nums .i64 T), v, .string (B b)] W fun e w' => e = .returned (.string (B (E key b))) ∧ Below W.heap.size W w' from fun b W hb hW => HD.out b v base W hb (hws.below hW))
  have HLD := Lib.hid (show ∀ (o : Oper) W, Below W2.heap.size W2 W → ∀ (a : Act), o.op = .load 77 (.tmp 12) → a.eval (.tmp 12) = .pointer (some ⟨tb, 0, none⟩) → (execOp a.eval o).run Try.prog W = .ok (.value (.agg (nums .i64 T))) W from
    fun o W hW a ho hx => run_load_row 77 (.tmp 12) ho tb hx (nums .i64 T) 77 (0, 0) (htb.below hW) _ Try.underlying77 rfl (by rw [nums_size, hTL]; kernel_rfl))
  clear hws htb HD hvo hTL hz256
  go_upto_region 3 with fail
  have hS : Below W2.heap.size W2 W2.drew := (Below.refl _ _).drew
  refine wp_region_held (S := fun w' => Below W2.heap.size W2 w') (by kernel_rfl) ?_
  change wpAnyH _ _ _ _ _ _ _ _ W2.drew
  refine takeH 0 rfl rfl (some 23) rfl (.agg (nums .i64 T)) (by kernel_rfl) (by kernel_rfl) (by kernel_rfl) (fun _ _ _ h => h) (fun w' hw => HLD.out _ w' hw _ rfl rfl) hS ?_
  simp only [Act.put, List.setIfInBounds_toArray, List.set_cons_zero, List.set_cons_succ]
  refine takeH 1 rfl rfl (some 24) rfl (v) (by kernel_rfl) (by kernel_rfl) (by kernel_rfl) (fun _ _ _ h => h) (fun _ _ => rfl) hS ?_
  simp only [Act.put, List.setIfInBounds_toArray, List.set_cons_zero, List.set_cons_succ]
  have hmk : (Instr.makeSlice 24 (.int .i64 16) (.int .i64 16)).run Try.prog W2.drew = .ok (.slice (some ⟨W2.heap.size, 0, none⟩) 16 16) (W2.drew.alloc (.cells (nums .u8 (zeros 16)) 5)) := by
    have h := run_make_row' (P := Try.prog) 24 5 (.int .u8 0) 1 Try.underlying24 Bld.infoByte rfl .i64 .i64 16 (by omega) (by omega) W2.drew
    rw [show madeCells #[.int .u8 0] 16 = nums .u8 (zeros 16) by kernel_rfl] at h
    exact h
  have hst : (convert 24 9 (.slice (some ⟨W2.heap.size, 0, none⟩) 16 16)).run Try.prog (W2.drew.alloc (.cells (nums .u8 (zeros 16)) 5)) = .ok (.string (B (Z 16))) (W2.drew.alloc (.cells (nums .u8 (zeros 16)) 5)) :=
    string_new W2.drew 5 24 9 5 16 16 (zeros 16) Try.underlying24 Try.underlying5 Try.underlying9 (zeros_length 16)
  have hS2 : Below W2.heap.size W2 (W2.drew.alloc (.cells (nums .u8 (zeros 16)) 5)) := hS.alloc (Nat.le_refl _) _
  refine oneH 2 rfl rfl (by kernel_rfl) fun K hK => ?_
  refine wpH_run (some 25) rfl (.slice (some ⟨W2.heap.size, 0, none⟩) 16 16) (runMake _ _ _ rfl _ _ _ rfl rfl hmk) ?_
  simp only [Act.put, List.setIfInBounds_toArray, List.set_cons_zero, List.set_cons_succ]
  refine hK _ _ hS2 fun _ => ?_
  clear hK K
  refine oneH 3 rfl rfl (by kernel_rfl) fun K hK => ?_
  refine wpH_run (some 26) rfl (.string (B (Z 16))) (runConv _ _ _ rfl _ _ rfl hst) ?_
  simp only [Act.put, List.setIfInBounds_toArray, List.set_cons_zero, List.set_cons_succ]
  refine hK _ _ hS2 fun _ => ?_
  clear hK K
  refine oneH 4 rfl rfl (by kernel_rfl) fun K hK => ?_
  refine wpH_call (some 27) rfl 48 #[.agg (nums .i64 T), v, .string (B (Z 16))] (by kernel_rfl) _ _ (HDO.out _ _ (Z_length 16) hS2) fun W3 hW3 => ?_
  simp only [Act.put, List.setIfInBounds_toArray, List.set_cons_zero, List.set_cons_succ]
  have hS3 : Below W2.heap.size W2 W3 := hS2.trans (hW3.mono hS2.size)
  refine hK _ _ hS3 fun _ => ?_
  clear hK K
  refine oneH 5 rfl rfl (by kernel_rfl) fun K hK => ?_
  refine wpH_run (some 14) rfl (.string (B (E key (Z 16)))) (rfl) ?_
  simp only [Act.put, List.setIfInBounds_toArray, List.set_cons_zero, List.set_cons_succ]
  refine hK _ _ hS3 fun _ => ?_
  clear hK K
  refine wpAnyH_done (by kernel_rfl) ?_ _
  have HS3 := Lib.hid hS3
  clear hmk hst hS2 hS hS3 hW3
  have hEL := E_length key (Z 16)
  have HFB := Lib.hid (show firstB key nonce = if nonce.length = 12 then nonce ++ [0, 0, 0, 1] else hashB (E key (Z 16)) [] nonce from rfl)
  have HFL := Lib.hid (firstB_length key nonce)
  have HTAG := Lib.hid (show ∀ s, tagB key (firstB key nonce) a s = orB (hashB (E key (Z 16)) a s) (E key (firstB key nonce)) from fun _ => rfl)
  have HHN := Lib.hid (show ∀ W, Calls Try.prog 17 #[.string (B (E key (Z 16))), .string (B []), .string (B nonce)] W fun e w' => e = .returned (.string (B (hashB (E key (Z 16)) [] nonce))) ∧ Below W.heap.size W w' from fun W => Hash_any (E key (Z 16)) [] nonce W hEL (by simp) (by omega))
  have HHA := Lib.hid (show ∀ s W, s.length ≤ 1000000 → Calls Try.prog 17 #[.string (B (E key (Z 16))), .string (B a), .string (B s)] W fun e w' => e = .returned (.string (B (hashB (E key (Z 16)) a s))) ∧ Below W.heap.size W w' from fun s W hs => Hash_any (E key (Z 16)) a s W hEL ha hs)
  have HHL := Lib.hid (hashB_length (E key (Z 16)))
  generalize hfe : firstB key nonce = first at *
  have HFE := Lib.hid hfe
  clear hfe
  generalize E key (Z 16) = h at *
  have hn4 : ¬ 9223372036854775807 < nonce.length + 4 := by omega
  go_upto_if 32 with fail
  go_cut [15] from 19 to 35 (fun s15 W => s15 = .string (B first) ∧ Below W2.heap.size W2 W)
  case first =>
    by_cases h12 : nonce.length = 12
    · have hb0 : ((nonce.length : Int) != 12) = false := by simp [h12]
      have HF := Lib.hid (show first = nonce ++ [0, 0, 0, 1] by rw [HFB.out, if_pos h12])
      clear h12
      go_wp2
      go_meet
      exact ⟨by rw [HF.out], HS3.out⟩
    · have hb0 : ((nonce.length : Int) != 12) = true := by simp; omega
      have HF := Lib.hid (show first = hashB h [] nonce by rw [HFB.out, if_neg h12])
      clear h12
      go_wp2_with fail
      refine Calls.below (HHN.out _) fun W4 hW4 => ?_
      go_wp2
      go_meet
      exact ⟨by rw [HF.out], HS3.out.trans (hW4.mono HS3.out.size)⟩
  case rest =>
    obtain ⟨rfl, hbel⟩ := hcut
    clear HFB HHN HS3
    generalize wc = W4 at *
    go_wp2
    go_loopw [16, 17] (fun s16 s17 wr => ∃ k p : Nat, 16 * k ≤ t.length + 15 ∧ p = 16 * k ∧ s17 = .int .i64 p ∧ s16 = .string (B (strN key first t k)) ∧ Below W2.heap.size W2 wr) (fun _ s _ => t.length + 16 - (intOf s).toNat)
    case atStart => exact ⟨0, 0, by omega, rfl, rfl, rfl, hbel⟩
    case round =>
      clear hbel W4
      obtain ⟨k, p, hk, hp, rfl, rfl, hbel⟩ := hrel
      have HP := Lib.hid hp
      by_cases hend : t.length ≤ p
      · have hlt : ¬ (p : Int) < (t.length : Int) := by omega
        have hSE : strN key first t k = streamB key first t := strN_end key first t k (by omega) hk
        rw [hSE]
        have hsl : (streamB key first t).length = t.length := streamB_length _ _ _
        have HOUT := Lib.hid (show ∀ s : List UInt8, s.length ≤ 1000000 → tagB key first a s = or2 (hashB h a s) (E key first) from fun s _ => by rw [HTAG.out, or2_take _ _ (E_length _ _), List.take_of_length_le (by rw [HHL.out]; omega)])
        clear hSE hend hk hp HP
        generalize hse : streamB key first t = S at *
        have HSE := Lib.hid hse
        clear hse
        cases sealed
        · go_upto_region 15 with fail
          have hS : Below W2.heap.size W2 wr.drew := hbel.drew
          have hsv : S.length ≤ 1000000 := by omega
          have HTG := Lib.hid (show ∀ W, Calls Try.prog 49 #[.string (B (hashB h a S)), .string (B (E key first))] W fun e w' => e = .returned (.string (B (tagB key first a S))) ∧ Below W.heap.size W w' from fun W => by rw [HOUT.out _ hsv]; exact or_any _ _ W (by rw [HHL.out]; omega) (by rw [E_length]; omega))
          refine wp_region_held (S := fun w' => Below W2.heap.size W2 w') (by kernel_rfl) ?_
          change wpAnyH _ _ _ _ _ _ _ _ wr.drew
          refine takeH 0 rfl rfl (some 59) rfl (.string (B S)) (by kernel_rfl) (by kernel_rfl) (by kernel_rfl) (fun _ _ _ h => h) (fun _ _ => rfl) hS ?_
          simp only [Act.put, List.setIfInBounds_toArray, List.set_cons_zero, List.set_cons_succ]
          refine takeH 1 rfl rfl (some 60) rfl (.string (B h)) (by kernel_rfl) (by kernel_rfl) (by kernel_rfl) (fun _ _ _ h => h) (fun _ _ => rfl) hS ?_
          simp only [Act.put, List.setIfInBounds_toArray, List.set_cons_zero, List.set_cons_succ]
          refine takeH 2 rfl rfl (some 61) rfl (.string (B a)) (by kernel_rfl) (by kernel_rfl) (by kernel_rfl) (fun _ _ _ h => h) (fun _ _ => rfl) hS ?_
          simp only [Act.put, List.setIfInBounds_toArray, List.set_cons_zero, List.set_cons_succ]
          refine takeH 3 rfl rfl (some 62) rfl (.string (B S)) (by kernel_rfl) (by kernel_rfl) (by kernel_rfl) (fun _ _ _ h => h) (fun _ _ => rfl) hS ?_
          simp only [Act.put, List.setIfInBounds_toArray, List.set_cons_zero, List.set_cons_succ]
          refine takeH 5 rfl rfl (some 64) rfl (.agg (nums .i64 T)) (by kernel_rfl) (by kernel_rfl) (by kernel_rfl) (fun _ _ _ h => h) (fun w' hw => HLD.out _ w' hw _ rfl rfl) hS ?_
          simp only [Act.put, List.setIfInBounds_toArray, List.set_cons_zero, List.set_cons_succ]
          refine takeH 6 rfl rfl (some 65) rfl (v) (by kernel_rfl) (by kernel_rfl) (by kernel_rfl) (fun _ _ _ h => h) (fun _ _ => rfl) hS ?_
          simp only [Act.put, List.setIfInBounds_toArray, List.set_cons_zero, List.set_cons_succ]
          refine takeH 7 rfl rfl (some 66) rfl (.string (B first)) (by kernel_rfl) (by kernel_rfl) (by kernel_rfl) (fun _ _ _ h => h) (fun _ _ => rfl) hS ?_
          simp only [Act.put, List.setIfInBounds_toArray, List.set_cons_zero, List.set_cons_succ]
          refine oneH 4 rfl rfl (by kernel_rfl) fun K hK => ?_
          refine wpH_call (some 63) rfl 17 #[.string (B h), .string (B a), .string (B S)] (by kernel_rfl) _ _ (HHA.out S _ hsv) fun W5 hW5 => ?_
          simp only [Act.put, List.setIfInBounds_toArray, List.set_cons_zero, List.set_cons_succ]
          have hS5 : Below W2.heap.size W2 W5 := hS.trans (hW5.mono hS.size)
          refine hK _ _ hS5 fun _ => ?_
          clear hK K
          refine oneH 8 rfl rfl (by kernel_rfl) fun K hK => ?_
          refine wpH_call (some 67) rfl 48 #[.agg (nums .i64 T), v, .string (B first)] (by kernel_rfl) _ _ (HDO.out _ _ HFL.out hS5) fun W6 hW6 => ?_
          simp only [Act.put, List.setIfInBounds_toArray, List.set_cons_zero, List.set_cons_succ]
          have hS6 : Below W2.heap.size W2 W6 := hS5.trans (hW6.mono hS5.size)
          refine hK _ _ hS6 fun _ => ?_
          clear hK K
          refine oneH 9 rfl rfl (by kernel_rfl) fun K hK => ?_
          refine wpH_call (some 68) rfl 49 #[.string (B (hashB h a S)), .string (B (E key first))] (by kernel_rfl) _ _ (HTG.out _) fun W7 hW7 => ?_
          simp only [Act.put, List.setIfInBounds_toArray, List.set_cons_zero, List.set_cons_succ]
          have hS7 : Below W2.heap.size W2 W7 := hS6.trans (hW7.mono hS6.size)
          refine hK _ _ hS7 fun _ => ?_
          clear hK K
          refine takeH 10 rfl rfl (some 10) rfl (.string (B S)) (by kernel_rfl) (by kernel_rfl) (by kernel_rfl) (fun _ _ _ h => h) (fun _ _ => rfl) hS7 ?_
          simp only [Act.put, List.setIfInBounds_toArray, List.set_cons_zero, List.set_cons_succ]
          refine oneH 11 rfl rfl (by kernel_rfl) fun K hK => ?_
          refine wpH_run (some 11) rfl (.string (B (tagB key first a S))) (rfl) ?_
          simp only [Act.put, List.setIfInBounds_toArray, List.set_cons_zero, List.set_cons_succ]
          refine hK _ _ hS7 fun _ => ?_
          clear hK K
          refine wpAnyH_done (by kernel_rfl) ?_ _
          go_wp2
          exact bodyPost_ret (v := .tuple #[.string (B S), .string (B (tagB key first a S))]) (by simp [results, Try.results36, go_sem]) rfl ⟨by simp only [HFE.out, HSE.out], HBEL.out.trans (hS7.mono HBEL.out.size)⟩
        · go_upto_region 15 with fail
          have hS : Below W2.heap.size W2 wr.drew := hbel.drew
          have hsv : t.length ≤ 1000000 := by omega
          have HTG := Lib.hid (show ∀ W, Calls Try.prog 49 #[.string (B (hashB h a t)), .string (B (E key first))] W fun e w' => e = .returned (.string (B (tagB key first a t))) ∧ Below W.heap.size W w' from fun W => by rw [HOUT.out _ hsv]; exact or_any _ _ W (by rw [HHL.out]; omega) (by rw [E_length]; omega))
          refine wp_region_held (S := fun w' => Below W2.heap.size W2 w') (by kernel_rfl) ?_
          change wpAnyH _ _ _ _ _ _ _ _ wr.drew
          refine takeH 0 rfl rfl (some 59) rfl (.string (B S)) (by kernel_rfl) (by kernel_rfl) (by kernel_rfl) (fun _ _ _ h => h) (fun _ _ => rfl) hS ?_
          simp only [Act.put, List.setIfInBounds_toArray, List.set_cons_zero, List.set_cons_succ]
          refine takeH 1 rfl rfl (some 60) rfl (.string (B h)) (by kernel_rfl) (by kernel_rfl) (by kernel_rfl) (fun _ _ _ h => h) (fun _ _ => rfl) hS ?_
          simp only [Act.put, List.setIfInBounds_toArray, List.set_cons_zero, List.set_cons_succ]
          refine takeH 2 rfl rfl (some 61) rfl (.string (B a)) (by kernel_rfl) (by kernel_rfl) (by kernel_rfl) (fun _ _ _ h => h) (fun _ _ => rfl) hS ?_
          simp only [Act.put, List.setIfInBounds_toArray, List.set_cons_zero, List.set_cons_succ]
          refine takeH 3 rfl rfl (some 62) rfl (.string (B t)) (by kernel_rfl) (by kernel_rfl) (by kernel_rfl) (fun _ _ _ h => h) (fun _ _ => rfl) hS ?_
          simp only [Act.put, List.setIfInBounds_toArray, List.set_cons_zero, List.set_cons_succ]
          refine takeH 5 rfl rfl (some 64) rfl (.agg (nums .i64 T)) (by kernel_rfl) (by kernel_rfl) (by kernel_rfl) (fun _ _ _ h => h) (fun w' hw => HLD.out _ w' hw _ rfl rfl) hS ?_
          simp only [Act.put, List.setIfInBounds_toArray, List.set_cons_zero, List.set_cons_succ]
          refine takeH 6 rfl rfl (some 65) rfl (v) (by kernel_rfl) (by kernel_rfl) (by kernel_rfl) (fun _ _ _ h => h) (fun _ _ => rfl) hS ?_
          simp only [Act.put, List.setIfInBounds_toArray, List.set_cons_zero, List.set_cons_succ]
          refine takeH 7 rfl rfl (some 66) rfl (.string (B first)) (by kernel_rfl) (by kernel_rfl) (by kernel_rfl) (fun _ _ _ h => h) (fun _ _ => rfl) hS ?_
          simp only [Act.put, List.setIfInBounds_toArray, List.set_cons_zero, List.set_cons_succ]
          refine oneH 4 rfl rfl (by kernel_rfl) fun K hK => ?_
          refine wpH_call (some 63) rfl 17 #[.string (B h), .string (B a), .string (B t)] (by kernel_rfl) _ _ (HHA.out t _ hsv) fun W5 hW5 => ?_
          simp only [Act.put, List.setIfInBounds_toArray, List.set_cons_zero, List.set_cons_succ]
          have hS5 : Below W2.heap.size W2 W5 := hS.trans (hW5.mono hS.size)
          refine hK _ _ hS5 fun _ => ?_
          clear hK K
          refine oneH 8 rfl rfl (by kernel_rfl) fun K hK => ?_
          refine wpH_call (some 67) rfl 48 #[.agg (nums .i64 T), v, .string (B first)] (by kernel_rfl) _ _ (HDO.out _ _ HFL.out hS5) fun W6 hW6 => ?_
          simp only [Act.put, List.setIfInBounds_toArray, List.set_cons_zero, List.set_cons_succ]
          have hS6 : Below W2.heap.size W2 W6 := hS5.trans (hW6.mono hS5.size)
          refine hK _ _ hS6 fun _ => ?_
          clear hK K
          refine oneH 9 rfl rfl (by kernel_rfl) fun K hK => ?_
          refine wpH_call (some 68) rfl 49 #[.string (B (hashB h a t)), .string (B (E key first))] (by kernel_rfl) _ _ (HTG.out _) fun W7 hW7 => ?_
          simp only [Act.put, List.setIfInBounds_toArray, List.set_cons_zero, List.set_cons_succ]
          have hS7 : Below W2.heap.size W2 W7 := hS6.trans (hW7.mono hS6.size)
          refine hK _ _ hS7 fun _ => ?_
          clear hK K
          refine takeH 10 rfl rfl (some 10) rfl (.string (B S)) (by kernel_rfl) (by kernel_rfl) (by kernel_rfl) (fun _ _ _ h => h) (fun _ _ => rfl) hS7 ?_
          simp only [Act.put, List.setIfInBounds_toArray, List.set_cons_zero, List.set_cons_succ]
          refine oneH 11 rfl rfl (by kernel_rfl) fun K hK => ?_
          refine wpH_run (some 11) rfl (.string (B (tagB key first a t))) (rfl) ?_
          simp only [Act.put, List.setIfInBounds_toArray, List.set_cons_zero, List.set_cons_succ]
          refine hK _ _ hS7 fun _ => ?_
          clear hK K
          refine wpAnyH_done (by kernel_rfl) ?_ _
          go_wp2
          exact bodyPost_ret (v := .tuple #[.string (B S), .string (B (tagB key first a t))]) (by simp [results, Try.results36, go_sem]) rfl ⟨by simp only [HFE.out, HSE.out], HBEL.out.trans (hS7.mono HBEL.out.size)⟩
      · have hlt : (p : Int) < (t.length : Int) := by omega
        have hq : (p : Int) / 16 = (k : Int) := by omega
        have hpl : p < t.length := by omega
        have hsk := strN_length key first t k hk
        have hbk : (t.drop p).take 16 = blk t k := by rw [blk, hp]
        have hctl := ctr_length HFL.out (k + 1)
        have HCT := Lib.hid (show ∀ W, Calls Try.prog 50 #[.string (B first), .int .i64 ((k + 1 : Nat) : Int)] W fun e w' => e = .returned (.string (B (ctr first (k + 1)))) ∧ Below W.heap.size W w' from fun W => counter_any first (k + 1) W HFL.out (by omega))
        have HDK := Lib.hid (show ∀ W, Below W2.heap.size W2 W → Calls Try.prog 48 #[.agg (nums .i64 T), v, .string (B (ctr first (k + 1)))] W fun e w' => e = .returned (.string (B (E key (ctr first (k + 1))))) ∧ Below W.heap.size W w' from fun W hW => HDO.out _ W hctl hW)
        have HOR := Lib.hid (show ∀ W, Calls Try.prog 49 #[.string (B (t.drop p)), .string (B (E key (ctr first (k + 1))))] W fun e w' => e = .returned (.string (B (orB (blk t k) (E key (ctr first (k + 1)))))) ∧ Below W.heap.size W w' from fun W => by
          have := or_any (t.drop p) (E key (ctr first (k + 1))) W (by rw [List.length_drop]; omega) (by rw [E_length]; omega)
          rw [or2_take _ _ (E_length _ _), hbk] at this
          exact this)
        have HSN := Lib.hid (show strN key first t (k + 1) = strN key first t k ++ orB (blk t k) (E key (ctr first (k + 1))) from rfl)
        have hol : (orB (blk t k) (E key (ctr first (k + 1)))).length ≤ 16 := by rw [orB_length, blk_length]; omega
        have hsl2 : (strN key first t k).length ≤ 1000000 := by omega
        have hcat : ¬ 9223372036854775807 < (strN key first t k).length + (orB (blk t k) (E key (ctr first (k + 1)))).length := by omega
        have hple : (p : Int) ≤ (t.length : Int) := by omega
        have hkl : (k : Int) ≤ 1000000 := by omega
        have hw1 : IntKind.i64.wrap (k : Int) = (k : Int) := by simp [IntKind.wrap, IntKind.bits, IntKind.signed]; omega
        have hw3 : IntKind.i64.wrap ((k : Int) + 1) = (k : Int) + 1 := by simp [IntKind.wrap, IntKind.bits, IntKind.signed]; omega
        have hw2 : IntKind.i64.wrap (1 + (k : Int)) = 1 + (k : Int) := by simp [IntKind.wrap, IntKind.bits, IntKind.signed]; omega
        clear hctl hbk hp hend hsk
        generalize ctr first (k + 1) = cc at *
        generalize E key cc = ee at *
        generalize orB (blk t k) ee = oo at *
        generalize strN key first t k = ss at *
        go_upto_region 11 with fail
        have hS : Below W2.heap.size W2 wr.drew := hbel.drew
        have hqv : (1 : Int) + (k : Int) = ((k + 1 : Nat) : Int) := by omega
        refine wp_region_held (S := fun w' => Below W2.heap.size W2 w') (by kernel_rfl) ?_
        change wpAnyH _ _ _ _ _ _ _ _ wr.drew
        refine takeH 0 rfl rfl (some 42) rfl (.string (B ss)) (by kernel_rfl) (by kernel_rfl) (by kernel_rfl) (fun _ _ _ h => h) (fun _ _ => rfl) hS ?_
        simp only [Act.put, List.setIfInBounds_toArray, List.set_cons_zero, List.set_cons_succ]
        refine takeH 1 rfl rfl (some 43) rfl (.string (B t)) (by kernel_rfl) (by kernel_rfl) (by kernel_rfl) (fun _ _ _ h => h) (fun _ _ => rfl) hS ?_
        simp only [Act.put, List.setIfInBounds_toArray, List.set_cons_zero, List.set_cons_succ]
        refine takeH 2 rfl rfl (some 44) rfl (.int .i64 (p : Int)) (by kernel_rfl) (by kernel_rfl) (by kernel_rfl) (fun _ _ _ h => h) (fun _ _ => rfl) hS ?_
        simp only [Act.put, List.setIfInBounds_toArray, List.set_cons_zero, List.set_cons_succ]
        refine takeH 3 rfl rfl (some 45) rfl (.string (B (t.drop p))) (by kernel_rfl) (by kernel_rfl) (by kernel_rfl) (fun _ _ _ h => h) (fun w' hw => by go_simp) hS ?_
        simp only [Act.put, List.setIfInBounds_toArray, List.set_cons_zero, List.set_cons_succ]
        refine takeH 4 rfl rfl (some 46) rfl (.agg (nums .i64 T)) (by kernel_rfl) (by kernel_rfl) (by kernel_rfl) (fun _ _ _ h => h) (fun w' hw => HLD.out _ w' hw _ rfl rfl) hS ?_
        simp only [Act.put, List.setIfInBounds_toArray, List.set_cons_zero, List.set_cons_succ]
        refine takeH 5 rfl rfl (some 47) rfl (v) (by kernel_rfl) (by kernel_rfl) (by kernel_rfl) (fun _ _ _ h => h) (fun _ _ => rfl) hS ?_
        simp only [Act.put, List.setIfInBounds_toArray, List.set_cons_zero, List.set_cons_succ]
        refine takeH 6 rfl rfl (some 48) rfl (.string (B first)) (by kernel_rfl) (by kernel_rfl) (by kernel_rfl) (fun _ _ _ h => h) (fun _ _ => rfl) hS ?_
        simp only [Act.put, List.setIfInBounds_toArray, List.set_cons_zero, List.set_cons_succ]
        refine takeH 7 rfl rfl (some 49) rfl (.int .i64 (p : Int)) (by kernel_rfl) (by kernel_rfl) (by kernel_rfl) (fun _ _ _ h => h) (fun _ _ => rfl) hS ?_
        simp only [Act.put, List.setIfInBounds_toArray, List.set_cons_zero, List.set_cons_succ]
        refine takeH 8 rfl rfl (some 50) rfl (.int .i64 (k : Int)) (by kernel_rfl) (by kernel_rfl) (by kernel_rfl) (fun _ _ _ h => h) (fun w' hw => by go_simp) hS ?_
        simp only [Act.put, List.setIfInBounds_toArray, List.set_cons_zero, List.set_cons_succ]
        refine takeH 9 rfl rfl (some 51) rfl (.int .i64 ((k + 1 : Nat) : Int)) (by kernel_rfl) (by kernel_rfl) (by kernel_rfl) (fun _ _ _ h => h) (fun w' hw => by rw [← hqv]; go_simp) hS ?_
        simp only [Act.put, List.setIfInBounds_toArray, List.set_cons_zero, List.set_cons_succ]
        refine oneH 10 rfl rfl (by kernel_rfl) fun K hK => ?_
        refine wpH_call (some 52) rfl 50 #[.string (B first), .int .i64 ((k + 1 : Nat) : Int)] (by kernel_rfl) _ _ (HCT.out _) fun W5 hW5 => ?_
        simp only [Act.put, List.setIfInBounds_toArray, List.set_cons_zero, List.set_cons_succ]
        have hS5 : Below W2.heap.size W2 W5 := hS.trans (hW5.mono hS.size)
        refine hK _ _ hS5 fun _ => ?_
        clear hK K
        refine oneH 11 rfl rfl (by kernel_rfl) fun K hK => ?_
        refine wpH_call (some 53) rfl 48 #[.agg (nums .i64 T), v, .string (B cc)] (by kernel_rfl) _ _ (HDK.out _ hS5) fun W6 hW6 => ?_
        simp only [Act.put, List.setIfInBounds_toArray, List.set_cons_zero, List.set_cons_succ]
        have hS6 : Below W2.heap.size W2 W6 := hS5.trans (hW6.mono hS5.size)
        refine hK _ _ hS6 fun _ => ?_
        clear hK K
        refine oneH 12 rfl rfl (by kernel_rfl) fun K hK => ?_
        refine wpH_call (some 54) rfl 49 #[.string (B (t.drop p)), .string (B ee)] (by kernel_rfl) _ _ (HOR.out _) fun W7 hW7 => ?_
        simp only [Act.put, List.setIfInBounds_toArray, List.set_cons_zero, List.set_cons_succ]
        have hS7 : Below W2.heap.size W2 W7 := hS6.trans (hW7.mono hS6.size)
        refine hK _ _ hS7 fun _ => ?_
        clear hK K
        refine oneH 13 rfl rfl (by kernel_rfl) fun K hK => ?_
        refine wpH_run (w' := W7) (some 55) rfl (.string (B (ss ++ oo))) (by go_simp) ?_
        simp only [Act.put, List.setIfInBounds_toArray, List.set_cons_zero, List.set_cons_succ]
        refine hK _ _ hS7 fun _ => ?_
        clear hK K
        refine oneH 14 rfl rfl (by kernel_rfl) fun K hK => ?_
        refine wpH_run (some 16) rfl (.string (B (ss ++ oo))) (rfl) ?_
        simp only [Act.put, List.setIfInBounds_toArray, List.set_cons_zero, List.set_cons_succ]
        refine hK _ _ hS7 fun _ => ?_
        clear hK K
        refine wpAnyH_done (by kernel_rfl) ?_ _
        go_wp2
        go_round
        case rel => exact ⟨k + 1, p + 16, by omega, by have := HP.out; omega, by go_num, by rw [HSN.out], hS7⟩
        case measure => simp [intOf]; omega
end Go.Proofs.Ytnnoimikoddbcaa.Ref08
