/-
  HMAC: what its laws ask first; the reference's Block and Sum.
  Conditions: the package's numbers lie in memory, where the program's Sum is called.
-/
import Derived.Test.YtpgadpnaekhiaaaDoorRsD
import Derived.BigRegion
namespace Go.Proofs.YtpgadpnaekhiaaaDoor.Hm
open Go.ChangeShapes Go.WideShapes Go.ChangeAt Go.RowKit Go.Deep
open Go.Proofs.YtpgadpnaekhiaaaDoor.Sha (GlobAt Other zeros zeros_length zeros_get made_zeros infoByte)
open Go.Proofs.YtpgadpnaekhiaaaDoor.Sha32 (byteF byteF_lt Z Z_length)
theorem joined_one (W : World) (b : Nat) (s : ByteArray) (h : W.cell? ⟨b, 0, none⟩ = some (.string s)) (hl : s.size ≤ 1000000) : Calls Tryd.prog 24 #[.slice (some ⟨b, 0, none⟩) 1 1, .string ⟨#[]⟩] W fun e w' => e = .returned (.string s) ∧ Below W.heap.size W w' := by
  have hb : b < W.heap.size := World.block_lt_of_cell? W ⟨b, 0, none⟩ h
  have := Tryd.strings_Join b 0 1 [s] ⟨#[]⟩ W (fun j x hx => by
    match j, hx with
    | 0, hx => cases hx; exact h
    | j + 1, hx => cases hx) hb (by simp) (by simp) (by
      have h2 : s.data.toList.length = s.size := rfl
      have h3 : Lib.join [s.data.toList] (ByteArray.mk #[]).data.toList = s.data.toList := by simp [Lib.join]
      rw [List.map_cons, List.map_nil, h3]
      omega)
  simpa [Lib.join] using this
/-- The code of a text in one part. -/
theorem hmac_one (size : Nat) (key t : List UInt8) (b : Nat) (w : World) (h : Good size) (hg : GlobAt w) (hk : key.length ≤ 1000000) (ht : t.length ≤ 900000) (hc : w.cell? ⟨b, 0, none⟩ = some (.string (B t))) :
    Calls Tryd.prog 13 #[.int .i64 size, .string (B key), .slice (some ⟨b, 0, none⟩) 1 1] w fun e w' => e = .returned (.string (B (hmacB size key t))) ∧ Below w.heap.size w w' :=
  hmac_any size key t _ w h hg hk ht fun W hW => joined_one W b (B t) (by rw [hW.cell (p := ⟨b, 0, none⟩) (World.block_lt_of_cell? w ⟨b, 0, none⟩ hc)]; exact hc) (by rw [B_size]; omega)
theorem awake6_any (w : World) (hg : GlobAt w) : Calls Tryd.prog 11 #[] w fun e w' => e = .returned (.bool true) ∧ Below w.heap.size w w' := by
  have hs := hmac_one 256 [107] [116] w.heap.size (w.alloc (.cells #[.string ⟨#[116]⟩] 9)) (.inl rfl) (hg.below ((Below.refl w.heap.size w).alloc (Nat.le_refl _) _)) (by simp) (by simp) (by rw [World.cell?_alloc_new]; rfl)
  have hl := hmacB_length 256 [107] [116] (.inl rfl)
  have HS := Lib.hid (show Calls Tryd.prog 13 #[.int .i64 256, .string ⟨#[107]⟩, .slice (some ⟨w.heap.size, 0, none⟩) 1 1] (w.alloc (.cells #[.string ⟨#[116]⟩] 9)) _ from hs)
  have HE := Lib.hid fun W => Same_any [97] [97] W (by simp) (by simp)
  clear hs
  generalize hmacB 256 [107] [116] = r at *
  rw [show decide (([97] : List UInt8) = [97]) = true from rfl] at HE
  go_enter Tryd.func11, Tryd.ntmps11
  go_wp2_with fail
  refine Calls.ext HS.out fun u1 => ?_
  go_wp2_with fail
  refine Calls.ext (HE.out _) fun u2 => ?_
  go_wp2
  go_ret
  exact ⟨by simp, by ((repeat' (with_reducible first | exact Below.refl _ _ | assumption | refine Below.drew ?_ | refine below_drewN ?_ _ | refine Below.setCell ?_ ?_ _ | refine Below.alloc ?_ ?_ _ | refine Below.ext ?_ ?_ _ | refine Below.trans ?_ (Below.mono ‹_› ?_))) <;> first | omega | (simp; done) | (simp; omega))⟩
theorem size6_any (c : Nat) (w : World) : Calls Tryd.prog 12 #[.int .u8 (c : Int)] w fun e w' => e = .returned (.int .i64 ((sizeL (c % 3) : Nat) : Int)) ∧ Below w.heap.size w w' := by
  obtain ⟨m, hm⟩ : ∃ m, c % 3 = m := ⟨_, rfl⟩
  have hm3 : m < 3 := by rw [← hm]; exact Nat.mod_lt _ (by omega)
  have htm : (c : Int).tmod 3 = (m : Int) := by rw [Int.tmod_eq_emod_of_nonneg (Int.natCast_nonneg _)]; omega
  have hidx := fun W => size_idx m hm3 W
  rw [hm]
  generalize sizeL m = size at *
  go_enter Tryd.func12, Tryd.ntmps12
  go_wp2
  go_ret
  exact ⟨rfl, by ((repeat' (with_reducible first | exact Below.refl _ _ | assumption | refine Below.drew ?_ | refine below_drewN ?_ _ | refine Below.setCell ?_ ?_ _ | refine Below.alloc ?_ ?_ _ | refine Below.ext ?_ ?_ _ | refine Below.trans ?_ (Below.mono ‹_› ?_))) <;> first | omega | (simp; done) | (simp; omega))⟩
theorem good_not {size : Nat} (h : Good size) : size < 1000 := by rcases h with rfl | rfl | rfl <;> omega
theorem RefBlock_any (size : Nat) (w : World) (h : Good size) : Calls Tryd.prog 15 #[.int .i64 size] w fun e w' => e = .returned (.int .i64 ((blkN size : Nat) : Int)) ∧ w = w' := by
  rcases h with rfl | rfl | rfl
  all_goals
    go_enter Tryd.func15, Tryd.ntmps15
    go_wp2
    go_ret
    exact ⟨rfl, rfl⟩
theorem RefBlock_none (x : Int) (w : World) (h : Other x) : Calls Tryd.prog 15 #[.int .i64 x] w fun e w' => e = .returned (.int .i64 0) ∧ w = w' := by
  obtain ⟨h1, h2, h3⟩ := h
  go_enter Tryd.func15, Tryd.ntmps15
  go_wp2
  go_ret
  exact ⟨rfl, rfl⟩
theorem hmac_none (x : Int) (key : List UInt8) (parts : Value) (w : World) (h : Other x) : Calls Tryd.prog 13 #[.int .i64 x, .string (B key), parts] w fun e w' => e = .returned (.string (B [])) ∧ w = w' := by
  have HB := Lib.hid fun W => Sha.Block_none x W h
  clear h
  go_enter Tryd.func13, Tryd.ntmps13
  go_wp2_with fail
  refine Calls.mono (HB.out _) ?_
  rintro _ _ ⟨rfl, rfl⟩
  go_wp2
  go_ret
  exact ⟨rfl, rfl⟩
theorem RefHmac_none (x : Int) (key t : List UInt8) (w : World) (h : Other x) : Calls Tryd.prog 14 #[.int .i64 x, .string (B key), .string (B t)] w fun e w' => e = .returned (.string (B [])) ∧ w = w' := by
  have HB := Lib.hid fun W => RefBlock_none x W h
  clear h
  go_enter Tryd.func14, Tryd.ntmps14
  go_wp2_with fail
  refine Calls.mono (HB.out _) ?_
  rintro _ _ ⟨rfl, rfl⟩
  go_wp2
  go_ret
  exact ⟨rfl, rfl⟩
/-- A string out of a row. -/
theorem runStr {o : Oper} {a : Act} {W : World} (x : Operand) (ho : o.op = .convert 33 9 x) {rb n cap : Nat} {l : List Nat} (hx : a.eval x = .slice (some ⟨rb, 0, none⟩) n cap) (hl : l.length = n) (h : NumsAt W rb 5 .u8 l) :
    (execOp a.eval o).run Tryd.prog W = .ok (.value (.string (B (l.map UInt8.ofNat)))) W := by
  have hst := string_of (P := Tryd.prog) W 33 9 5 ⟨rb, 0, none⟩ n cap l Tryd.underlying33 Tryd.underlying5 Tryd.underlying9 hl (fun j hj => by
    have e1 : (⟨rb, 0, none⟩ : Addr).add j = ⟨rb, j, none⟩ := by simp [Addr.add]; omega
    rw [e1]; exact h.cell j (by omega))
  unfold execOp
  simp only [ho, hx, Sem.run_bind, hst, Result.andThen_ok, Sem.run_pure]
  rfl
theorem runCat {o : Oper} {a : Act} {w : World} (x y : Operand) (tp : TypeId) (ho : o.op = .binOp .add 9 x y tp) {s t : List UInt8} (hx : a.eval x = .string (B s)) (hy : a.eval y = .string (B t)) (hl : s.length + t.length ≤ 2000000) :
    (execOp a.eval o).run Tryd.prog w = .ok (.value (.string (B (s ++ t)))) w := by
  have hcat : ¬ 9223372036854775807 < s.length + t.length := by omega
  unfold execOp
  simp only [ho, hx, hy]
  go_simp
theorem runMake {o : Oper} {a : Act} {w : World} (x y : Operand) (ho : o.op = .makeSlice 33 x y) {n : Nat} (hx : a.eval x = .int .i64 (n : Int)) (hy : a.eval y = .int .i64 (n : Int)) (hn : n ≤ 1000000) :
    (execOp a.eval o).run Tryd.prog w = .ok (.value (.slice (some ⟨w.heap.size, 0, none⟩) n n)) (w.alloc (.cells (nums .u8 (zeros n)) 5)) := by
  have hmk := run_make_row' (P := Tryd.prog) 33 5 (.int .u8 0) 1 Tryd.underlying33 infoByte rfl .i64 .i64 n (by omega) (by omega) w
  rw [made_zeros] at hmk
  unfold execOp
  simp only [ho, hx, hy, Sem.run_bind, hmk, Result.andThen_ok, Sem.run_pure]
def TwoS (w : World) (p q : Nat) (l m : List Nat) (W : World) : Prop := Below w.heap.size w W ∧ NumsAt W p 5 .u8 l ∧ NumsAt W q 5 .u8 m
theorem TwoS.keep {w : World} {p q : Nat} {l m : List Nat} (W W1 : World) (h : TwoS w p q l m W) (hb : Below W.heap.size W W1) : TwoS w p q l m W1 :=
  ⟨h.1.trans (hb.mono h.1.size), h.2.1.below hb, h.2.2.below hb⟩
theorem fill_byte (k : List UInt8) (n i : Nat) (h : k.length ≤ i) : byteF (k ++ Z n) i = 0 := by
  unfold byteF Z
  simp only [List.getD]
  rw [List.getElem?_append_right h]
  by_cases hi : i - k.length < n
  · simp [hi]
  · simp [hi]
theorem key_byte (k : List UInt8) (n i : Nat) (h : i < k.length) : byteF (k ++ Z n) i = byteF k i := by
  unfold byteF
  simp only [List.getD]
  rw [List.getElem?_append_left h]
set_option maxHeartbeats 1600000 in
set_option maxRecDepth 100000 in
theorem RefHmac_any (size : Nat) (key t : List UInt8) (w : World) (h : Good size) (hk : key.length ≤ 100000) (ht : t.length ≤ 90000) :
    Calls Tryd.prog 14 #[.int .i64 size, .string (B key), .string (B t)] w fun e w' => e = .returned (.string (B (hmacB size key t))) ∧ Below w.heap.size w w' := by
  have hbb := blk_bounds size h
  have HB := Lib.hid fun W => RefBlock_any size W h
  have HS := Lib.hid fun b W hb => Ref_any size b W h hb
  have HKD := Lib.hid fun W => Ref_any size key W h hk
  have hsz := good_not h
  obtain ⟨k2, hk2⟩ : ∃ k2, (if blkN size < key.length then digest size key else key) = k2 := ⟨_, rfl⟩
  have hfk : fillK size key = k2 ++ Z (blkN size - k2.length) := by rw [← hk2]; rfl
  have hdl := digest_length size key h
  have hk2l : k2.length ≤ blkN size := by
    rw [← hk2]
    split
    · omega
    · omega
  have hdi := fun b => digest_length size b h
  have HM := Lib.hid (show hmacB size key t = digest size (turnB (fillK size key) 92 ++ digest size (turnB (fillK size key) 54 ++ t)) from rfl)
  have hfl := fillK_length size key h
  have ht9 := turnB_length (fillK size key) 92
  have ht5 := turnB_length (fillK size key) 54
  have HT9 := Lib.hid (show turnB (fillK size key) 92 = (tab (turnF (fillK size key) 92) (fillK size key).length).map UInt8.ofNat from rfl)
  have HT5 := Lib.hid (show turnB (fillK size key) 54 = (tab (turnF (fillK size key) 54) (fillK size key).length).map UInt8.ofNat from rfl)
  have HTF := Lib.hid (show ∀ c i, turnF (fillK size key) c i = byteF (fillK size key) i ^^^ c from fun _ _ => rfl)
  have HBF := Lib.hid (show ∀ i, byteF (fillK size key) i = if i < k2.length then byteF k2 i else 0 from fun i => by
    rw [hfk]
    split
    · next hi => exact key_byte _ _ _ hi
    · next hi => exact fill_byte _ _ _ (by omega))
  rw [hfl] at HT9 HT5 ht9 ht5
  generalize hmacB size key t = res at *
  generalize fillK size key = fk at *
  generalize hbn : blkN size = bn at *
  have HDK := Lib.hid (show (bn < key.length → digest size key = k2) ∧ (¬ bn < key.length → key = k2) from ⟨fun h => by rw [if_pos h] at hk2; exact hk2, fun h => by rw [if_neg h] at hk2; exact hk2⟩)
  clear hk2 hfk hfl hdl hbn
  have hbn0 : ((bn : Int) == 0) = false := by simp; omega
  go_enter Tryd.func14, Tryd.ntmps14
  go_wp2_with fail
  refine Calls.mono (HB.out _) ?_
  rintro _ _ ⟨rfl, rfl⟩
  go_upto_if 19 with fail
  go_cut [1] from 19 to 22 (fun s1 W => s1 = .string (B k2) ∧ Below w.heap.size w W)
  case first =>
    by_cases hlt : bn < key.length
    · have hlti : (bn : Int) < (key.length : Int) := by omega
      have hd := HDK.out.1 hlt
      rw [hd] at HKD
      clear hd
      go_wp2_with fail
      refine Calls.ext (HKD.out _) fun u => ?_
      go_wp2
      go_meet
      exact ⟨rfl, by ((repeat' (with_reducible first | exact Below.refl _ _ | assumption | refine Below.drew ?_ | refine below_drewN ?_ _ | refine Below.setCell ?_ ?_ _ | refine Below.alloc ?_ ?_ _ | refine Below.ext ?_ ?_ _ | refine Below.trans ?_ (Below.mono ‹_› ?_))) <;> first | omega | (simp; done) | (simp; omega))⟩
    · have hlti : ¬ (bn : Int) < (key.length : Int) := by omega
      have hd := HDK.out.2 hlt
      subst hd
      go_wp2
      go_meet
      exact ⟨rfl, Below.refl _ _⟩
  case rest =>
    obtain ⟨rfl, hb0⟩ := hcut
    have HB0 := Lib.hid hb0
    have hbw := hb0.size
    clear hb0
    go_upto_region 6 with fail
    go_cut [8, 9] from 23 to 26 (fun s8 s9 W => ∃ p q : Nat, s8 = .slice (some ⟨p, 0, none⟩) bn bn ∧ s9 = .slice (some ⟨q, 0, none⟩) bn bn ∧ p ≠ q ∧ w.heap.size ≤ p ∧ w.heap.size ≤ q ∧ TwoS w p q (zeros bn) (zeros bn) W)
    case first =>
      have hS : Below w.heap.size w wc.drew := HB0.out.drew
      refine wp_region_held (S := fun W => Below w.heap.size w W) (by kernel_rfl) ?_
      change wpAnyH _ _ _ _ _ _ _ _ wc.drew
      refine takeH 0 rfl rfl (some 23) rfl (.int .i64 (bn : Int)) (by kernel_rfl) (by kernel_rfl) (by kernel_rfl) (fun _ _ _ h => h) (fun _ _ => rfl) hS ?_
      simp only [Act.put, List.setIfInBounds_toArray, List.set_cons_zero, List.set_cons_succ]
      refine takeH 2 rfl rfl (some 25) rfl (.int .i64 (bn : Int)) (by kernel_rfl) (by kernel_rfl) (by kernel_rfl) (fun _ _ _ h => h) (fun _ _ => rfl) hS ?_
      simp only [Act.put, List.setIfInBounds_toArray, List.set_cons_zero, List.set_cons_succ]
      refine twoH 1 3 rfl rfl rfl rfl (by kernel_rfl) (fun K hK => ?_) (fun K hK => ?_)
      · have hSa : Below w.heap.size w (wc.drew.alloc (.cells (nums .u8 (zeros bn)) 5)) := hS.alloc hbw _
        refine wpH_run (w' := wc.drew.alloc (.cells (nums .u8 (zeros bn)) 5)) (some 24) rfl (.slice (some ⟨wc.drew.heap.size, 0, none⟩) bn bn) (runMake _ _ rfl rfl rfl (by omega)) ?_
        simp only [Act.put, List.setIfInBounds_toArray, List.set_cons_zero, List.set_cons_succ]
        refine hK _ _ hSa fun _ => ?_
        clear hK K
        have hr1 := NumsAt.new wc.drew 5 .u8 (zeros bn)
        have hl1 := hr1.lt
        have hwa : w.heap.size ≤ wc.drew.heap.size := hbw
        generalize wc.drew.alloc (.cells (nums .u8 (zeros bn)) 5) = Wa at *
        generalize wc.drew.heap.size = pa at *
        have hSb : Below w.heap.size w (Wa.alloc (.cells (nums .u8 (zeros bn)) 5)) := hSa.alloc (by omega) _
        have hr2 := NumsAt.new Wa 5 .u8 (zeros bn)
        refine takeH 4 rfl rfl (some 8) rfl (.slice (some ⟨pa, 0, none⟩) bn bn) (by kernel_rfl) (by kernel_rfl) (by kernel_rfl) (fun _ _ _ h => h) (fun _ _ => rfl) hSa ?_
        simp only [Act.put, List.setIfInBounds_toArray, List.set_cons_zero, List.set_cons_succ]
        refine oneH 3 rfl rfl (by kernel_rfl) fun K hK => ?_
        refine wpH_run (w' := Wa.alloc (.cells (nums .u8 (zeros bn)) 5)) (some 26) rfl (.slice (some ⟨Wa.heap.size, 0, none⟩) bn bn) (runMake _ _ rfl rfl rfl (by omega)) ?_
        simp only [Act.put, List.setIfInBounds_toArray, List.set_cons_zero, List.set_cons_succ]
        refine hK _ _ hSb fun _ => ?_
        clear hK K
        refine takeH 5 rfl rfl (some 9) rfl (.slice (some ⟨Wa.heap.size, 0, none⟩) bn bn) (by kernel_rfl) (by kernel_rfl) (by kernel_rfl) (fun _ _ _ h => h) (fun _ _ => rfl) hSb ?_
        simp only [Act.put, List.setIfInBounds_toArray, List.set_cons_zero, List.set_cons_succ]
        refine wpAnyH_done (by kernel_rfl) ?_ _
        go_wp2
        go_meet
        exact ⟨_, _, rfl, rfl, (by omega), hwa, (by omega), hSb, hr1.alloc _, hr2⟩
      · have hSa : Below w.heap.size w (wc.drew.alloc (.cells (nums .u8 (zeros bn)) 5)) := hS.alloc hbw _
        refine wpH_run (w' := wc.drew.alloc (.cells (nums .u8 (zeros bn)) 5)) (some 26) rfl (.slice (some ⟨wc.drew.heap.size, 0, none⟩) bn bn) (runMake _ _ rfl rfl rfl (by omega)) ?_
        simp only [Act.put, List.setIfInBounds_toArray, List.set_cons_zero, List.set_cons_succ]
        refine hK _ _ hSa fun _ => ?_
        clear hK K
        have hr1 := NumsAt.new wc.drew 5 .u8 (zeros bn)
        have hl1 := hr1.lt
        have hwa : w.heap.size ≤ wc.drew.heap.size := hbw
        generalize wc.drew.alloc (.cells (nums .u8 (zeros bn)) 5) = Wa at *
        generalize wc.drew.heap.size = pa at *
        have hSb : Below w.heap.size w (Wa.alloc (.cells (nums .u8 (zeros bn)) 5)) := hSa.alloc (by omega) _
        have hr2 := NumsAt.new Wa 5 .u8 (zeros bn)
        refine oneH 1 rfl rfl (by kernel_rfl) fun K hK => ?_
        refine wpH_run (w' := Wa.alloc (.cells (nums .u8 (zeros bn)) 5)) (some 24) rfl (.slice (some ⟨Wa.heap.size, 0, none⟩) bn bn) (runMake _ _ rfl rfl rfl (by omega)) ?_
        simp only [Act.put, List.setIfInBounds_toArray, List.set_cons_zero, List.set_cons_succ]
        refine hK _ _ hSb fun _ => ?_
        clear hK K
        refine takeH 4 rfl rfl (some 8) rfl (.slice (some ⟨Wa.heap.size, 0, none⟩) bn bn) (by kernel_rfl) (by kernel_rfl) (by kernel_rfl) (fun _ _ _ h => h) (fun _ _ => rfl) hSb ?_
        simp only [Act.put, List.setIfInBounds_toArray, List.set_cons_zero, List.set_cons_succ]
        refine takeH 5 rfl rfl (some 9) rfl (.slice (some ⟨pa, 0, none⟩) bn bn) (by kernel_rfl) (by kernel_rfl) (by kernel_rfl) (fun _ _ _ h => h) (fun _ _ => rfl) hSb ?_
        simp only [Act.put, List.setIfInBounds_toArray, List.set_cons_zero, List.set_cons_succ]
        refine wpAnyH_done (by kernel_rfl) ?_ _
        go_wp2
        go_meet
        exact ⟨_, _, rfl, rfl, (by omega), (by omega), hwa, hSb, hr2, hr1.alloc _⟩
    case rest =>
      obtain ⟨p, q, rfl, rfl, hpq, hp, hq, hS⟩ := hcut
      clear HB0 hbw
      go_wp2
      go_loopw [10] (fun s10 wr => ∃ (i : Nat) (l m : List Nat), i ≤ bn ∧ s10 = .int .i64 i ∧ l = fillN (turnF fk 54) (zeros bn) i ∧ m = fillN (turnF fk 92) (zeros bn) i ∧ TwoS w p q l m wr) (fun s _ => bn - (intOf s).toNat)
      case atStart => exact ⟨0, zeros bn, zeros bn, by omega, rfl, rfl, rfl, hS⟩
      case round =>
        clear hS
        obtain ⟨i, l, m, hi, rfl, hl, hm, hS⟩ := hrel
        have hll : l.length = bn := by rw [hl, fillN_length, zeros_length]
        have hml : m.length = bn := by rw [hm, fillN_length, zeros_length]
        have HL := Lib.hid hl
        have HM2 := Lib.hid hm
        clear hl hm
        by_cases hend : i = bn
        · have hlt : ¬ (i : Int) < (bn : Int) := by omega
          have hl0 : l.map UInt8.ofNat = turnB fk 54 := by rw [HL.out, hend, fillN_full _ (zeros_length bn), HT5.out]
          have hm0 : m.map UInt8.ofNat = turnB fk 92 := by rw [HM2.out, hend, fillN_full _ (zeros_length bn), HT9.out]
          clear HL HM2 HT5 HT9 HTF HBF hend
          generalize turnB fk 54 = a5 at *
          generalize turnB fk 92 = a9 at *
          have hb1 : (a5 ++ t).length ≤ 100000 := by rw [List.length_append]; omega
          have HS1 := Lib.hid fun W => HS.out (a5 ++ t) W hb1
          have hd1 := hdi (a5 ++ t)
          generalize digest size (a5 ++ t) = d1 at *
          have hb2 : (a9 ++ d1).length ≤ 100000 := by rw [List.length_append]; omega
          have HS2 := Lib.hid fun W => HS.out (a9 ++ d1) W hb2
          generalize digest size (a9 ++ d1) = d2 at *
          go_upto_region 15 with fail
          have hS2 : TwoS w p q l m wr.drew := ⟨hS.1.drew, hS.2.1.drew, hS.2.2.drew⟩
          refine wp_region_held (S := fun W => TwoS w p q l m W) (by kernel_rfl) ?_
          change wpAnyH _ _ _ _ _ _ _ _ wr.drew
          refine takeH 0 rfl rfl (some 49) rfl (.int .i64 (size : Int)) (by kernel_rfl) (by kernel_rfl) (by kernel_rfl) (fun _ _ _ h => h) (fun _ _ => rfl) hS2 ?_
          simp only [Act.put, List.setIfInBounds_toArray, List.set_cons_zero, List.set_cons_succ]
          refine takeH 1 rfl rfl (some 50) rfl (.slice (some ⟨q, 0, none⟩) bn bn) (by kernel_rfl) (by kernel_rfl) (by kernel_rfl) (fun _ _ _ h => h) (fun _ _ => rfl) hS2 ?_
          simp only [Act.put, List.setIfInBounds_toArray, List.set_cons_zero, List.set_cons_succ]
          refine takeH 2 rfl rfl (some 51) rfl (.string (B a9)) (by kernel_rfl) (by kernel_rfl) (by kernel_rfl) (fun _ _ _ h => h) (fun w1 h1 => by rw [← hm0]; exact runStr _ rfl rfl hml h1.2.2) hS2 ?_
          simp only [Act.put, List.setIfInBounds_toArray, List.set_cons_zero, List.set_cons_succ]
          refine takeH 3 rfl rfl (some 52) rfl (.int .i64 (size : Int)) (by kernel_rfl) (by kernel_rfl) (by kernel_rfl) (fun _ _ _ h => h) (fun _ _ => rfl) hS2 ?_
          simp only [Act.put, List.setIfInBounds_toArray, List.set_cons_zero, List.set_cons_succ]
          refine takeH 4 rfl rfl (some 53) rfl (.slice (some ⟨p, 0, none⟩) bn bn) (by kernel_rfl) (by kernel_rfl) (by kernel_rfl) (fun _ _ _ h => h) (fun _ _ => rfl) hS2 ?_
          simp only [Act.put, List.setIfInBounds_toArray, List.set_cons_zero, List.set_cons_succ]
          refine takeH 5 rfl rfl (some 54) rfl (.string (B a5)) (by kernel_rfl) (by kernel_rfl) (by kernel_rfl) (fun _ _ _ h => h) (fun w1 h1 => by rw [← hl0]; exact runStr _ rfl rfl hll h1.2.1) hS2 ?_
          simp only [Act.put, List.setIfInBounds_toArray, List.set_cons_zero, List.set_cons_succ]
          refine takeH 6 rfl rfl (some 55) rfl (.string (B t)) (by kernel_rfl) (by kernel_rfl) (by kernel_rfl) (fun _ _ _ h => h) (fun _ _ => rfl) hS2 ?_
          simp only [Act.put, List.setIfInBounds_toArray, List.set_cons_zero, List.set_cons_succ]
          refine takeH 7 rfl rfl (some 56) rfl (.string (B (a5 ++ t))) (by kernel_rfl) (by kernel_rfl) (by kernel_rfl) (fun _ _ _ h => h) (fun w1 _ => runCat _ _ _ rfl rfl rfl (by omega)) hS2 ?_
          simp only [Act.put, List.setIfInBounds_toArray, List.set_cons_zero, List.set_cons_succ]
          refine oneH 8 rfl rfl (by kernel_rfl) fun K hK => ?_
          refine wpH_call (some 57) rfl 16 #[.int .i64 (size : Int), .string (B (a5 ++ t))] (by kernel_rfl) _ _ (HS1.out _) fun Wc1 hWc1 => ?_
          simp only [Act.put, List.setIfInBounds_toArray, List.set_cons_zero, List.set_cons_succ]
          have hSc1 := TwoS.keep wr.drew Wc1 hS2 hWc1
          refine hK _ _ hSc1 fun _ => ?_
          clear hK K
          refine takeH 9 rfl rfl (some 58) rfl (.string (B (a9 ++ d1))) (by kernel_rfl) (by kernel_rfl) (by kernel_rfl) (fun _ _ _ h => h) (fun w1 _ => runCat _ _ _ rfl rfl rfl (by omega)) hSc1 ?_
          simp only [Act.put, List.setIfInBounds_toArray, List.set_cons_zero, List.set_cons_succ]
          refine oneH 10 rfl rfl (by kernel_rfl) fun K hK => ?_
          refine wpH_call (some 59) rfl 16 #[.int .i64 (size : Int), .string (B (a9 ++ d1))] (by kernel_rfl) _ _ (HS2.out _) fun Wc2 hWc2 => ?_
          simp only [Act.put, List.setIfInBounds_toArray, List.set_cons_zero, List.set_cons_succ]
          have hSc2 := TwoS.keep Wc1 Wc2 hSc1 hWc2
          refine hK _ _ hSc2 fun _ => ?_
          clear hK K
          refine takeH 11 rfl rfl (some 6) rfl (.string (B d2)) (by kernel_rfl) (by kernel_rfl) (by kernel_rfl) (fun _ _ _ h => h) (fun _ _ => rfl) hSc2 ?_
          simp only [Act.put, List.setIfInBounds_toArray, List.set_cons_zero, List.set_cons_succ]
          refine wpAnyH_done (by kernel_rfl) ?_ _
          go_wp2
          go_ret
          exact ⟨by rw [HM.out]; rfl, hSc2.1⟩
        · have hlt : (i : Int) < (bn : Int) := by omega
          have hib : i < bn := by omega
          obtain ⟨v, hv⟩ : ∃ v, byteF fk i = v := ⟨_, rfl⟩
          have hv8 : v < 256 := by rw [← hv]; exact byteF_lt _ _
          have hbf := HBF.out i
          rw [hv] at hbf
          have hx5 : bits .xor .u8 (v : Int) 54 = ((v ^^^ 54 : Nat) : Int) := u8_xor_nat v 54 hv8 (by omega)
          have hx9 : bits .xor .u8 (v : Int) 92 = ((v ^^^ 92 : Nat) : Int) := u8_xor_nat v 92 hv8 (by omega)
          have HT5i := Lib.hid (show turnF fk 54 i = v ^^^ 54 by rw [HTF.out, hv])
          have HT9i := Lib.hid (show turnF fk 92 i = v ^^^ 92 by rw [HTF.out, hv])
          generalize v ^^^ 54 = y5 at *
          generalize v ^^^ 92 = y9 at *
          obtain ⟨hb, hr1, hr2⟩ := hS
          have c1 := hr1.cell i (by omega)
          have f1 := hr1.frozen i
          have hr1b := hr1.set i y5
          have hr2b := hr2.other p i (.int .u8 ((y5 : Nat) : Int)) (Ne.symm hpq)
          have c2 := hr2b.cell i (by omega)
          have f2 := hr2b.frozen i
          have HR1 := Lib.hid (hr1b.other q i (.int .u8 ((y9 : Nat) : Int)) hpq)
          have HR2 := Lib.hid (hr2b.set i y9)
          have HBB := Lib.hid (Below.setCell (Below.setCell hb (show w.heap.size ≤ (⟨p, i, none⟩ : Addr).block from hp) (.int .u8 ((y5 : Nat) : Int))) (show w.heap.size ≤ (⟨q, i, none⟩ : Addr).block from hq) (.int .u8 ((y9 : Nat) : Int)))
          clear hr1 hr2 hr1b hr2b hb hv
          by_cases hik : i < k2.length
          · have hiki : (i : Int) < (k2.length : Int) := by omega
            rw [if_pos hik] at hbf
            have hx : ((k2[i].toNat : Nat) : Int) = (v : Int) := by rw [hbf]; simp [byteF, List.getD, hik]
            clear hbf
            go_wp2
            go_round
            case rel => exact ⟨i + 1, l.set i y5, m.set i y9, by omega, by go_num, by rw [fillN, ← HL.out, HT5i.out], by rw [fillN, ← HM2.out, HT9i.out], HBB.out, HR1.out, HR2.out⟩
            case measure => simp [intOf]; omega
          · have hiki : ¬ (i : Int) < (k2.length : Int) := by omega
            rw [if_neg hik] at hbf
            rw [hbf] at hx5 hx9
            replace hx5 : bits .xor .u8 0 54 = (y5 : Int) := hx5
            replace hx9 : bits .xor .u8 0 92 = (y9 : Int) := hx9
            clear hbf
            go_wp2
            go_round
            case rel => exact ⟨i + 1, l.set i y5, m.set i y9, by omega, by go_num, by rw [fillN, ← HL.out, HT5i.out], by rw [fillN, ← HM2.out, HT9i.out], HBB.out, HR1.out, HR2.out⟩
            case measure => simp [intOf]; omega
end Go.Proofs.YtpgadpnaekhiaaaDoor.Hm
