/-
  HmacSame: Same returns whether two strings are equal; with one bit changed they are not.
  Conditions: none (the package's two tables are as the program's text lays them: the card ties that).
-/
import Derived.Test.YtpgadpnaekhiaaaDoorHm
import Derived.Test.YtpgadpnaekhiaaaDoorHeld
import Derived.Test.YtpgadpnaekhiaaaDoorOpen
import Derived.Test.YtpgadpnaekhiaaaDoorOpen2
import Derived.Test.YtpgadpnaekhiaaaDoorTie
import Derived.Test.YtpgadpnaekhiaaaDoorCards
import Derived.SevenTiedAt
import Derived.BigRegion
namespace Go.Proofs.YtpgadpnaekhiaaaDoor.HmacSame
open Go.ChangeShapes Go.WideShapes Go.ChangeAt Go.RowKit Go.Deep Go.Proofs.YtpgadpnaekhiaaaDoor.Hm
open Go.Proofs.YtpgadpnaekhiaaaDoor.Sha (GlobAt)
open Go.Proofs.YtpgadpnaekhiaaaDoor.Sha32 (byteF byteF_lt runAt runLoad runStore wpH_skip)
theorem join_one (W : World) (b : Nat) (s : ByteArray) (h : W.cell? ⟨b, 0, none⟩ = some (.string s)) (hl : s.size ≤ 1000000) : Calls Tryd.prog 24 #[.slice (some ⟨b, 0, none⟩) 1 1, .string ⟨#[]⟩] W fun e w' => e = .returned (.string s) ∧ Below W.heap.size W w' := by
  have hb : b < W.heap.size := World.block_lt_of_cell? W ⟨b, 0, none⟩ h
  have := Tryd.strings_Join b 0 1 [s] ⟨#[]⟩ W (fun j x hx => by
    match j, hx with
    | 0, hx => cases hx; exact h
    | j + 1, hx => cases hx) hb (by simp) (by simp) (by
      have h2 : s.data.toList.length = s.size := rfl
      have h3 : Lib.join [s.data.toList] (ByteArray.mk #[]).data.toList = s.data.toList := by simp [Lib.join]
      rw [List.map_cons, List.map_nil, h3]
      omega)
  simpa [Lib.join] using this
theorem awake_any (w : World) (hg : GlobAt w) : Calls Tryd.prog 11 #[] w fun e w' => e = .returned (.bool true) ∧ Below w.heap.size w w' := by
  have hs := hmac_any 256 [107] [116] (.slice (some ⟨w.heap.size, 0, none⟩) 1 1) (w.alloc (.cells #[.string ⟨#[116]⟩] 9)) (.inl rfl) (hg.below ((Below.refl w.heap.size w).alloc (Nat.le_refl _) _)) (by simp) (by simp)
    (fun W hW => join_one W w.heap.size ⟨#[116]⟩ (by rw [hW.cell (p := ⟨w.heap.size, 0, none⟩) (by simp)]; rw [World.cell?_alloc_new]; rfl) (by decide))
  have hl := hmacB_length 256 [107] [116] (.inl rfl)
  have HS := Lib.hid (show Calls Tryd.prog 13 #[.int .i64 256, .string ⟨#[107]⟩, .slice (some ⟨w.heap.size, 0, none⟩) 1 1] (w.alloc (.cells #[.string ⟨#[116]⟩] 9)) _ from hs)
  have HE := Lib.hid fun W => Same_any [97] [97] W (by simp) (by simp)
  clear hs
  generalize hmacB 256 [107] [116] = r at *
  rw [show decide (([97] : List UInt8) = [97]) = true from rfl] at HE
  go_enter Tryd.func11, Tryd.ntmps11
  go_wp2_with fail
  refine Calls.ext HS.out fun u1 => ?_
  go_wp2_with fail
  refine Calls.ext (HE.out _) fun u2 => ?_
  go_wp2
  go_ret
  exact ⟨by simp, by ((repeat' (with_reducible first | exact Below.refl _ _ | assumption | refine Below.drew ?_ | refine below_drewN ?_ _ | refine Below.setCell ?_ ?_ _ | refine Below.alloc ?_ ?_ _ | refine Below.ext ?_ ?_ _ | refine Below.trans ?_ (Below.mono ‹_› ?_))) <;> first | omega | (simp; done) | (simp; omega))⟩
theorem set_ne {T : List UInt8} {q v : Nat} (hq : q < T.length) (hv : v < 256) (hne : v ≠ byteF T q) : T ≠ ((natL T).set q v).map UInt8.ofNat := by
  intro h
  apply hne
  have h1 := congrArg (fun l => byteF l q) h
  simp only [byteF, List.getD, List.getElem?_map, List.getElem?_set_self (show q < (natL T).length by rw [natL_length]; exact hq), Option.map_some, Option.getD_some, UInt8.toNat_ofNat'] at h1
  rw [byteF, List.getD, h1]
  exact (Nat.mod_eq_of_lt hv).symm
theorem xor_ne {a p : Nat} (hp : p ≠ 0) : a ^^^ p ≠ a := by
  intro h
  apply hp
  have : a ^^^ (a ^^^ p) = a ^^^ a := by rw [h]
  rwa [← Nat.xor_assoc, Nat.xor_self, Nat.zero_xor] at this
theorem ldU16 (W : World) (p : Addr) (v : Value) (h : W.cell? p = some v) : (Instr.loadAt 35 (.pointer (some p))).run Tryd.prog W = .ok v W := by
  go_simp
theorem ldU8 (W : World) (p : Addr) (v : Value) (h : W.cell? p = some v) : (Instr.loadAt 5 (.pointer (some p))).run Tryd.prog W = .ok v W := by
  go_simp
theorem stU8 (W : World) (b i : Nat) (v : Int) (old : Value) (h : W.cell? ⟨b, i, none⟩ = some old) (hf : W.frozen? ⟨b, i, none⟩ = false) : (Instr.storeAt 5 (.pointer (some ⟨b, i, none⟩)) (.int .u8 v)).run Tryd.prog W = .ok () (W.setCell ⟨b, i, none⟩ (.int .u8 v)) := by
  go_simp
theorem atRow8 (W : World) (b i n cap : Nat) (h : i < n) : (Instr.indexAt 33 (.slice (some ⟨b, 0, none⟩) n cap) (.int .i64 (i : Int))).run Tryd.prog W = .ok (.pointer (some ⟨b, i, none⟩)) W := by
  have hi : (i : Int) < (n : Int) := by omega
  go_simp
theorem runConv16 {o : Oper} {a : Act} {w : World} (x : Operand) (ho : o.op = .convert 35 3 x) {p : Nat} (hx : a.eval x = .int .u16 (p : Int)) (hp : p < 65536) :
    (execOp a.eval o).run Tryd.prog w = .ok (.value (.int .i64 (p : Int))) w := by
  unfold execOp
  simp only [ho, hx]
  go_simp
  simp [IntKind.wrap, IntKind.bits, IntKind.signed]
  omega
theorem runRem {o : Oper} {a : Act} {w : World} (x y : Operand) (tp : TypeId) (ho : o.op = .binOp .rem 3 x y tp) {p L q : Nat} (hx : a.eval x = .int .i64 (p : Int)) (hy : a.eval y = .int .i64 (L : Int)) (hq : p % L = q) (hL : 0 < L) (hp : p < 65536) :
    (execOp a.eval o).run Tryd.prog w = .ok (.value (.int .i64 (q : Int))) w := by
  have hql : q < 65536 := by have := Nat.mod_le p L; omega
  have hL0 : ¬ L = 0 := by omega
  have hqi : (p : Int) % (L : Int) = (q : Int) := by rw [← hq]; simp
  have htm : (p : Int).tmod (L : Int) = (q : Int) := (Int.tmod_eq_emod_of_nonneg (Int.natCast_nonneg _)).trans hqi
  have hw : wrap64 (q : Int) = (q : Int) := by unfold wrap64; omega
  unfold execOp
  simp only [ho, hx, hy]
  go_simp
theorem runRem8 {o : Oper} {a : Act} {w : World} (x y : Operand) (tp : TypeId) (ho : o.op = .binOp .rem 35 x y tp) {r m : Nat} (hx : a.eval x = .int .u16 (r : Int)) (hy : a.eval y = .int .u16 8) (hm : r % 8 = m) :
    (execOp a.eval o).run Tryd.prog w = .ok (.value (.int .u16 (m : Int))) w := by
  have hmi : (r : Int) % 8 = (m : Int) := by rw [← hm]; simp
  have htm : (r : Int).tmod 8 = (m : Int) := (Int.tmod_eq_emod_of_nonneg (Int.natCast_nonneg _)).trans hmi
  unfold execOp
  simp only [ho, hx, hy]
  go_simp
theorem runShl {o : Oper} {a : Act} {w : World} (x y : Operand) (tp : TypeId) (ho : o.op = .binOp .shl 5 x y tp) {m z : Nat} (hx : a.eval x = .int .u8 1) (hy : a.eval y = .int .u16 (m : Int)) (hm : m < 8) (hz : 2 ^ m % 256 = z) :
    (execOp a.eval o).run Tryd.prog w = .ok (.value (.int .u8 (z : Int))) w := by
  have hzi : (2 : Int) ^ m % 256 = (z : Int) := by rw [← hz]; simp
  unfold execOp
  simp only [ho, hx, hy]
  go_simp
  simp only [IntKind.wrap, IntKind.bits, IntKind.signed]
  simpa using hzi
theorem runXor8 {o : Oper} {a : Act} {w : World} (x y : Operand) (tp : TypeId) (ho : o.op = .binOp .xor 5 x y tp) {v u z : Nat} (hx : a.eval x = .int .u8 (v : Int)) (hy : a.eval y = .int .u8 (u : Int)) (hz : bits .xor .u8 (v : Int) (u : Int) = (z : Int)) :
    (execOp a.eval o).run Tryd.prog w = .ok (.value (.int .u8 (z : Int))) w := by
  unfold execOp
  simp only [ho, hx, hy]
  go_simp
def SS (p r b : Nat) (W : World) : Prop := W.cell? ⟨b, 0, none⟩ = some (.int .u16 (p : Int)) ∧ W.cell? ⟨b, 1, none⟩ = some (.int .u16 (r : Int))
set_option maxHeartbeats 1600000 in
set_option maxRecDepth 100000 in
theorem same_law (a b : List UInt8) (p r : Nat) (w : World) (hg : GlobAt w) (_ha : a.length ≤ maxLen) (_hb : b.length ≤ maxLen) (hp : p < 65536) (_hr : r < 65536) :
    Calls Tryd.prog 7 #[.string (B a), .string (B b), .agg #[.int .u16 (p : Int), .int .u16 (r : Int)]] w fun e w' => e = .returned (.bool true) ∧ Below w.heap.size w w' := by
  have H0 := Lib.hid awake_any
  have HG := Lib.hid (hg.below ((Below.refl w.heap.size w).alloc (Nat.le_refl _) (.cells #[.int .u16 (p : Int), .int .u16 (r : Int)] 36)))
  clear hg
  by_cases h5 : (a.length : Int) ≤ 500 ∧ (b.length : Int) ≤ 500
  · obtain ⟨ha5, hb5⟩ := h5
    obtain ⟨c, hc⟩ : ∃ c, c = decide (a = b) := ⟨_, rfl⟩
    have HS1 := Lib.hid fun W => Same_any a b W (by omega) (by omega)
    rw [← hc] at HS1
    have hbe : (a == b) = c := by rw [hc]; by_cases h : a = b <;> simp [h]
    have HS2 := Lib.hid fun W => Same_any a a W (by omega) (by omega)
    rw [show decide (a = a) = true by simp] at HS2
    have HC := Lib.hid hc
    clear hc
    by_cases ha0 : a = []
    · have hae : a.isEmpty = true := by rw [ha0]; rfl
      have HA0 := Lib.hid ha0
      clear ha0
      go_enter Tryd.func7, Tryd.ntmps7
      go_wp2_with fail
      refine Calls.ext (H0.out _ HG.out) fun u1 => ?_
      go_wp2_with fail
      refine Calls.ext (HS1.out _) fun u2 => ?_
      go_wp2_with fail
      refine Calls.ext (HS2.out _) fun u3 => ?_
      go_wp2
      go_ret
      exact ⟨by simp, by ((repeat' (with_reducible first | exact Below.refl _ _ | assumption | refine Below.drew ?_ | refine below_drewN ?_ _ | refine Below.setCell ?_ ?_ _ | refine Below.alloc ?_ ?_ _ | refine Below.ext ?_ ?_ _ | refine Below.trans ?_ (Below.mono ‹_› ?_))) <;> first | omega | (simp; done) | (simp; omega))⟩
    · have hae : a.isEmpty = false := by rw [List.isEmpty_eq_false_iff]; exact ha0
      have hal : 0 < a.length := List.length_pos_iff.2 ha0
      go_enter Tryd.func7, Tryd.ntmps7
      go_wp2_with fail
      refine Calls.ext (H0.out _ HG.out) fun u1 => ?_
      go_wp2_with fail
      refine Calls.ext (HS1.out _) fun u2 => ?_
      go_wp2_with fail
      refine Calls.ext (HS2.out _) fun u3 => ?_
      go_upto_region 7 with fail
      have hin : (ext (w.alloc (.cells #[.int .u16 (p : Int), .int .u16 (r : Int)] 36)) (comb (comb u1 u2) u3)).heap[w.heap.size]? = some (.cells #[.int .u16 (p : Int), .int .u16 (r : Int)] 36 (0, 0)) := heap_ext (heap_alloc_last w _)
      have hb5 : Below w.heap.size w (ext (w.alloc (.cells #[.int .u16 (p : Int), .int .u16 (r : Int)] 36)) (comb (comb u1 u2) u3)) := by ((repeat' (with_reducible first | exact Below.refl _ _ | assumption | refine Below.drew ?_ | refine below_drewN ?_ _ | refine Below.setCell ?_ ?_ _ | refine Below.alloc ?_ ?_ _ | refine Below.ext ?_ ?_ _ | refine Below.trans ?_ (Below.mono ‹_› ?_))) <;> first | omega | (simp; done) | (simp; omega))
      generalize ext (w.alloc (.cells #[.int .u16 (p : Int), .int .u16 (r : Int)] 36)) (comb (comb u1 u2) u3) = W5 at *
      have hil := lt_of_heap hin
      obtain ⟨cap, w1, hconv, hcap, hb1, hrow⟩ := row_conv (P := Tryd.prog) W5 9 33 5 a Tryd.underlying9 Tryd.underlying33 Tryd.underlying5
      have hin1 := below_heap hb1 hil hin
      have HB5 := Lib.hid hb5
      have HB1 := Lib.hid hb1
      have HROW := Lib.hid hrow
      have hi0 : w1.cell? ⟨w.heap.size, 0, none⟩ = some (.int .u16 (p : Int)) := by rw [cell_of_row w1 w.heap.size 0 _ _ _ hin1]; rfl
      have hi1 : w1.cell? ⟨w.heap.size, 1, none⟩ = some (.int .u16 (r : Int)) := by rw [cell_of_row w1 w.heap.size 1 _ _ _ hin1]; rfl
      obtain ⟨L, hL⟩ : ∃ L, L = a.length := ⟨_, rfl⟩
      rw [← hL] at hconv hcap hal ha5
      have hrl : (natL a).length = L := by rw [natL_length, hL]
      obtain ⟨q, hq⟩ : ∃ q, q = p % L := ⟨_, rfl⟩
      have hql : q < L := by rw [hq]; exact Nat.mod_lt _ (by omega)
      have hqi : (p : Int) % (L : Int) = (q : Int) := by rw [hq]; simp
      have hrq := hrow.2 q (by omega)
      rw [natL, tab_get _ _ _ (by omega)] at hrq
      obtain ⟨hcq, hfq⟩ := hrq
      have hvl := byteF_lt a q
      obtain ⟨y, hy⟩ : ∃ y, y = 2 ^ (r % 8) % 256 := ⟨_, rfl⟩
      have hy0 : y ≠ 0 := by
        have : ∀ m, m < 8 → 2 ^ m % 256 ≠ 0 := by decide
        rw [hy]; exact this _ (Nat.mod_lt _ (by omega))
      have hyl : y < 256 := by omega
      have hxx := u8_xor_nat (byteF a q) y hvl hyl
      have hz : byteF a q ^^^ y ≠ byteF a q := xor_ne hy0
      have hzl : byteF a q ^^^ y < 256 := Nat.xor_lt_two_pow (n := 8) hvl hyl
      have HZ := Lib.hid (set_ne (T := a) (q := q) (v := byteF a q ^^^ y) (by omega) hzl hz)
      generalize byteF a q ^^^ y = z at *
      generalize byteF a q = v at *
      have hcapi : (L : Int) ≤ (cap : Int) := by omega
      have hL0 : ¬ L = 0 := by omega
      have hqli : (q : Int) < (L : Int) := by omega
      have hbl := hrow.1
      have hwp : wrap64 (p : Int) = (p : Int) := by unfold wrap64; omega
      have htm : (p : Int).tmod (L : Int) = (q : Int) := (Int.tmod_eq_emod_of_nonneg (Int.natCast_nonneg _)).trans hqi
      obtain ⟨m, hm⟩ : ∃ m, m = r % 8 := ⟨_, rfl⟩
      have hmi : (r : Int) % 8 = (m : Int) := by rw [hm]; simp
      rw [← hm] at hy
      have hml : m < 8 := by omega
      have hmn := hm.symm
      have HLL := Lib.hid hL
      have HQ := Lib.hid hq
      clear hin hin1 hb5 hb1 hrow hq hL hz hm
      have hqn := HQ.out.symm
      have hyn := hy.symm
      have hS : SS p r w.heap.size w1.drew := ⟨hi0, hi1⟩
      clear hmi hqi htm
      go_upto_region 8 with fail
      refine wp_region_held (S := fun W => SS p r w.heap.size W) (by kernel_rfl) ?_
      change wpAnyH _ _ _ _ _ _ _ _ w1.drew
      refine takeH 0 rfl rfl (some 38) rfl (.slice (some ⟨W5.heap.size, 0, none⟩) L cap) (by kernel_rfl) (by kernel_rfl) (by kernel_rfl) (fun _ _ _ h => h) (fun _ _ => rfl) hS ?_
      simp only [Act.put, List.setIfInBounds_toArray, List.set_cons_zero, List.set_cons_succ]
      refine takeH 1 rfl rfl (some 39) rfl (.pointer (some ⟨w.heap.size, 0, none⟩)) (by kernel_rfl) (by kernel_rfl) (by kernel_rfl) (fun _ _ _ h => h) (fun _ _ => by kernel_rfl) hS ?_
      simp only [Act.put, List.setIfInBounds_toArray, List.set_cons_zero, List.set_cons_succ]
      refine takeH 2 rfl rfl (some 40) rfl (.int .u16 (p : Int)) (by kernel_rfl) (by kernel_rfl) (by kernel_rfl) (fun _ _ _ h => h) (fun w1 h1 => runLoad _ _ rfl _ _ rfl (ldU16 w1 _ _ h1.1)) hS ?_
      simp only [Act.put, List.setIfInBounds_toArray, List.set_cons_zero, List.set_cons_succ]
      refine takeH 3 rfl rfl (some 41) rfl (.int .i64 (p : Int)) (by kernel_rfl) (by kernel_rfl) (by kernel_rfl) (fun _ _ _ h => h) (fun w1 _ => runConv16 _ rfl rfl hp) hS ?_
      simp only [Act.put, List.setIfInBounds_toArray, List.set_cons_zero, List.set_cons_succ]
      refine takeH 4 rfl rfl (some 42) rfl (.slice (some ⟨W5.heap.size, 0, none⟩) L cap) (by kernel_rfl) (by kernel_rfl) (by kernel_rfl) (fun _ _ _ h => h) (fun _ _ => rfl) hS ?_
      simp only [Act.put, List.setIfInBounds_toArray, List.set_cons_zero, List.set_cons_succ]
      refine takeH 5 rfl rfl (some 43) rfl (.int .i64 (L : Int)) (by kernel_rfl) (by kernel_rfl) (by kernel_rfl) (fun _ _ _ h => h) (fun _ _ => by kernel_rfl) hS ?_
      simp only [Act.put, List.setIfInBounds_toArray, List.set_cons_zero, List.set_cons_succ]
      refine takeH 6 rfl rfl (some 44) rfl (.int .i64 (q : Int)) (by kernel_rfl) (by kernel_rfl) (by kernel_rfl) (fun _ _ _ h => h) (fun w1 _ => runRem _ _ _ rfl rfl rfl hqn hal hp) hS ?_
      simp only [Act.put, List.setIfInBounds_toArray, List.set_cons_zero, List.set_cons_succ]
      refine takeH 7 rfl rfl (some 45) rfl (.pointer (some ⟨W5.heap.size, q, none⟩)) (by kernel_rfl) (by kernel_rfl) (by kernel_rfl) (fun _ _ _ h => h) (fun w1 _ => runAt _ _ _ rfl _ _ _ rfl rfl (atRow8 w1 _ q _ _ hql)) hS ?_
      simp only [Act.put, List.setIfInBounds_toArray, List.set_cons_zero, List.set_cons_succ]
      refine takeH 9 rfl rfl (some 47) rfl (.pointer (some ⟨w.heap.size, 1, none⟩)) (by kernel_rfl) (by kernel_rfl) (by kernel_rfl) (fun _ _ _ h => h) (fun _ _ => by kernel_rfl) hS ?_
      simp only [Act.put, List.setIfInBounds_toArray, List.set_cons_zero, List.set_cons_succ]
      refine takeH 10 rfl rfl (some 48) rfl (.int .u16 (r : Int)) (by kernel_rfl) (by kernel_rfl) (by kernel_rfl) (fun _ _ _ h => h) (fun w1 h1 => runLoad _ _ rfl _ _ rfl (ldU16 w1 _ _ h1.2)) hS ?_
      simp only [Act.put, List.setIfInBounds_toArray, List.set_cons_zero, List.set_cons_succ]
      refine takeH 11 rfl rfl (some 49) rfl (.int .u16 (m : Int)) (by kernel_rfl) (by kernel_rfl) (by kernel_rfl) (fun _ _ _ h => h) (fun w1 _ => runRem8 _ _ _ rfl rfl rfl hmn) hS ?_
      simp only [Act.put, List.setIfInBounds_toArray, List.set_cons_zero, List.set_cons_succ]
      refine takeH 12 rfl rfl (some 50) rfl (.int .u8 (y : Int)) (by kernel_rfl) (by kernel_rfl) (by kernel_rfl) (fun _ _ _ h => h) (fun w1 _ => runShl _ _ _ rfl rfl rfl hml hyn) hS ?_
      simp only [Act.put, List.setIfInBounds_toArray, List.set_cons_zero, List.set_cons_succ]
      refine oneH 8 rfl rfl (by kernel_rfl) fun K hK => ?_
      refine wpH_run (w' := w1.drew) (some 46) rfl (.int .u8 (v : Int)) (runLoad _ _ rfl _ _ rfl (ldU8 w1.drew _ _ hcq)) ?_
      simp only [Act.put, List.setIfInBounds_toArray, List.set_cons_zero, List.set_cons_succ]
      refine hK _ _ hS fun _ => ?_
      clear hK K
      refine takeH 13 rfl rfl (some 51) rfl (.int .u8 (z : Int)) (by kernel_rfl) (by kernel_rfl) (by kernel_rfl) (fun _ _ _ h => h) (fun w1 _ => runXor8 _ _ _ rfl rfl rfl hxx) hS ?_
      simp only [Act.put, List.setIfInBounds_toArray, List.set_cons_zero, List.set_cons_succ]
      refine takeH 14 rfl rfl (some 52) rfl (.pointer (some ⟨W5.heap.size, q, none⟩)) (by kernel_rfl) (by kernel_rfl) (by kernel_rfl) (fun _ _ _ h => h) (fun w1 _ => runAt _ _ _ rfl _ _ _ rfl rfl (atRow8 w1 _ q _ _ hql)) hS ?_
      simp only [Act.put, List.setIfInBounds_toArray, List.set_cons_zero, List.set_cons_succ]
      have hne : ¬ W5.heap.size = w.heap.size := by omega
      have hS2 : SS p r w.heap.size (w1.drew.setCell ⟨W5.heap.size, q, none⟩ (.int .u8 (z : Int))) := by
        have e := setCell_block w1.drew W5.heap.size w.heap.size q (.int .u8 (z : Int)) hne
        exact ⟨by rw [World.cell?_of_block e]; exact hi0, by rw [World.cell?_of_block e]; exact hi1⟩
      refine oneH 15 rfl rfl (by kernel_rfl) fun K hK => ?_
      refine wpH_skip (w' := w1.drew.setCell ⟨W5.heap.size, q, none⟩ (.int .u8 (z : Int))) rfl (runStore _ _ _ rfl _ _ rfl rfl (stU8 w1.drew _ _ _ _ hcq hfq)) ?_
      refine hK _ _ hS2 fun _ => ?_
      clear hK K
      refine wpAnyH_done (by kernel_rfl) ?_ _
      have hrow2 : RowAt (w1.drew.setCell ⟨W5.heap.size, q, none⟩ (.int .u8 (z : Int))) W5.heap.size ((natL a).set q z) := RowAt.set (w := w1.drew) HROW.out q z (by omega)
      have HB6 := Lib.hid (show Below w.heap.size w (w1.drew.setCell ⟨W5.heap.size, q, none⟩ (.int .u8 (z : Int))) from Below.setCell ((HB5.out.trans (HB1.out.mono HB5.out.size)).drew) HB5.out.size _)
      have hl2 : ((natL a).set q z).length = L := by rw [List.length_set, hrl]
      clear hS hS2 hi0 hi1 hcq hfq hxx hconv hne hrl
      generalize w1.drew.setCell ⟨W5.heap.size, q, none⟩ (.int .u8 (z : Int)) = W6 at *
      generalize (natL a).set q z = l2 at *
      have hst : (convert 33 9 (.slice (some ⟨W5.heap.size, 0, none⟩) L cap)).run Tryd.prog W6 = .ok (.string (B (l2.map UInt8.ofNat))) W6 :=
        string_of (P := Tryd.prog) _ 33 9 5 ⟨W5.heap.size, 0, none⟩ L cap l2 Tryd.underlying33 Tryd.underlying5 Tryd.underlying9 hl2 (fun j hj => by
          have e1 : (⟨W5.heap.size, 0, none⟩ : Addr).add j = ⟨W5.heap.size, j, none⟩ := by simp [Addr.add]; omega
          rw [e1]; exact (hrow2.2 j (by omega)).1)
      have HS3 := Lib.hid fun W => Same_any a (l2.map UInt8.ofNat) W (by omega) (by rw [List.length_map]; omega)
      have HC3 := Lib.hid (show decide (a = l2.map UInt8.ofNat) = false from decide_eq_false HZ.out)
      generalize decide (a = l2.map UInt8.ofNat) = c3 at *
      clear hrow2
      generalize l2.map UInt8.ofNat = T at *
      generalize W5.heap.size = bb at *
      go_wp2_with fail
      refine Calls.ext (HS3.out _) fun u4 => ?_
      dsimp only
      go_wp2
      go_ret
      exact ⟨by rw [HC3.out]; rfl, HB6.out.trans (Below.mono (by ((repeat' (with_reducible first | exact Below.refl _ _ | assumption | refine Below.drew ?_ | refine below_drewN ?_ _ | refine Below.setCell ?_ ?_ _ | refine Below.alloc ?_ ?_ _ | refine Below.ext ?_ ?_ _ | refine Below.trans ?_ (Below.mono ‹_› ?_))) <;> first | omega | (simp; done) | (simp; omega))) HB6.out.size)⟩
  · by_cases ha5 : (a.length : Int) ≤ 500
    · have hb5 : ¬ (b.length : Int) ≤ 500 := fun h => h5 ⟨ha5, h⟩
      clear h5
      go_enter Tryd.func7, Tryd.ntmps7
      go_wp2_with fail
      refine Calls.ext (H0.out _ HG.out) fun u1 => ?_
      go_wp2_with fail
      refine Calls.ext (H0.out _ (HG.out.below (ext_below _ _))) fun u2 => ?_
      go_wp2
      go_ret
      exact ⟨rfl, by ((repeat' (with_reducible first | exact Below.refl _ _ | assumption | refine Below.drew ?_ | refine below_drewN ?_ _ | refine Below.setCell ?_ ?_ _ | refine Below.alloc ?_ ?_ _ | refine Below.ext ?_ ?_ _ | refine Below.trans ?_ (Below.mono ‹_› ?_))) <;> first | omega | (simp; done) | (simp; omega))⟩
    · clear h5
      go_enter Tryd.func7, Tryd.ntmps7
      go_wp2_with fail
      refine Calls.ext (H0.out _ HG.out) fun u1 => ?_
      go_wp2_with fail
      refine Calls.ext (H0.out _ (HG.out.below (ext_below _ _))) fun u2 => ?_
      go_wp2
      go_ret
      exact ⟨rfl, by ((repeat' (with_reducible first | exact Below.refl _ _ | assumption | refine Below.drew ?_ | refine below_drewN ?_ _ | refine Below.setCell ?_ ?_ _ | refine Below.alloc ?_ ?_ _ | refine Below.ext ?_ ?_ _ | refine Below.trans ?_ (Below.mono ‹_› ?_))) <;> first | omega | (simp; done) | (simp; omega))⟩
set_option maxRecDepth 100000 in
theorem walk (W : World) (base : Nat) (args : Array Value) {H : Type} {enc : TypeId × Value → H} (ds : List (DataW H)) (ps : List MemPlace) (hg : GlobAt W)
    (hval : ∀ (j : Nat) t v, Tryd.f7.params[j]? = some t → args[j]? = some v → Value.okWide Tryd.prog W .any base t v)
    (hA : DataW.TrodAll enc Tryd.prog W 0 (fun _ => true) true Tryd.f7.params.toList args.toList ds ps) (hlt : ∀ p ∈ ps, p.block < W.heap.size) :
    Calls Tryd.prog 7 args W fun e W' => e = .returned (.bool true) ∧ Below W.heap.size W W' := by
  rw [Tryd.params7] at hA hval
  obtain ⟨v0, v1, v2, d0, d1, d2, p0, p1, p2, rfl, rfl, rfl, h0, h1, h2⟩ := trodAll_three hA
  obtain ⟨a, rfl, ha⟩ := open_str Tryd.underlying9 (hval 0 9 v0 rfl rfl) h0 (fun p hp => hlt p (by simp [hp]))
  obtain ⟨b, rfl, hb⟩ := open_str Tryd.underlying9 (hval 1 9 v1 rfl rfl) h1 (fun p hp => hlt p (by simp [hp]))
  obtain ⟨cs, rfl, hall⟩ := open_flat [35, 35] (hval 2 36 v2 rfl rfl) h2 (fun p hp => hlt p (by simp [hp])) (by kernel_rfl) (by kernel_rfl) (by kernel_rfl)
  obtain ⟨c1, r1, rfl, l1, c2, r2, rfl, l2, rfl⟩ := hall
  obtain ⟨m, rfl, hm⟩ := l1.int Tryd.underlying35
  obtain ⟨y, rfl, hy⟩ := l2.int Tryd.underlying35
  have h1 : 0 ≤ m ∧ m < 65536 := by
    simp [Lit.wf, IntKind.min, IntKind.max, IntKind.signed, IntKind.bits] at hm
    omega
  have h2 : 0 ≤ y ∧ y < 65536 := by
    simp [Lit.wf, IntKind.min, IntKind.max, IntKind.signed, IntKind.bits] at hy
    omega
  obtain ⟨c, rfl⟩ : ∃ c : Nat, m = (c : Int) := ⟨m.toNat, by omega⟩
  obtain ⟨d, rfl⟩ : ∃ d : Nat, y = (d : Int) := ⟨y.toNat, by omega⟩
  exact same_law a b c d W hg ha hb (by omega) (by omega)
set_option maxRecDepth 100000 in
theorem door_met (os : Os) (args : Array Value) : laidMetH Tryd.prog laidL ((World.doorLaid Tryd.prog 400 os).forCall (fun _ _ => 0) ⟨#[], args, []⟩).memory :=
  laidMetH_of_parts3 (fuel := 8) (laidMet_of_run' 8 (by kernel_rfl) (by kernel_rfl)) (by kernel_rfl) (by kernel_rfl)
set_option maxRecDepth 100000 in
theorem lifted (os : Os) (started : os.Started) (H : Type) (enc : TypeId × Value → H) :
    ReturnsInHanded {} Tryd.checked os 7 .any (fun w args => (Rows.hmacSameSpec.pre enc Tryd.prog Tryd.f7 [] false w args ∧ laidMetH Tryd.prog laidL w) ∧ sizedMet enc Tryd.prog Tryd.f7 (OpenSpec.ofChange Rows.hmacSameSpec) false w args) (Rows.hmacSameSpec.post enc Tryd.prog Tryd.f7 false true false false) :=
  law_lift_laid (C := Tryd.checked) (tb := 4) (by kernel_rfl) started (by kernel_rfl) Tryd.func7
    (ChangeSpec.witness_shaped (enc := enc) (C := Tryd.checked) (os := os) (X := fun w _ => laidMetH Tryd.prog laidL w) false (World.doorLaid Tryd.prog 400 os) #[.string ⟨#[]⟩, .string ⟨#[]⟩, .agg #[.int .u16 0, .int .u16 0]] 8 rfl (World.shaped_of_RefB (by kernel_rfl) (by kernel_rfl)) (by kernel_rfl) (by kernel_rfl) (by kernel_rfl) (door_met os _))
    (by kernel_rfl) (by kernel_rfl) rfl (by kernel_rfl) Tryd.underlying4 (fun ds h => by match ds, h with | [_, _, _], _ => exact ⟨rfl, rfl, rfl⟩)
    (fun W base args ds ps hL hval hA hlt => walk W base args ds ps (laid_glob hL) hval hA hlt)
theorem over : Rows.hmacSameRow.holds Tryd.pinned (OpenSpec.ofChange Rows.hmacSameSpec) :=
  OpenClaim.holds_of_wide 7 Tryd.f7 rfl rfl rfl rfl rfl rfl rfl ⟨rfl, rfl, rfl, rfl, rfl⟩ rfl rfl rfl rfl rfl (by kernel_rfl) Tryd.func7 (by kernel_rfl)
    (of_decide_eq_true (by kernel_rfl)) (by unfold Func.isWrapper; rw [if_neg (of_decide_eq_false (by kernel_rfl))]; exact ⟨rfl, rfl⟩)
    (fun os started H enc _ => lifted os started H enc)
theorem proved : Rows.HmacSameCardSaid :=
  Claim7.holds_tied_plain_at .later [] [.data, .data] true (true, "2e3556fb2737b9446447295cc99a6f79054103e76f59878535ebabf517a44985") false
    over (fun _ h => by cases h) (by kernel_rfl) (fun _ h => by cases h) hmacSame_row_tie rfl ⟨rfl, rfl⟩ (by kernel_rfl) rfl
    (fun f fn hf hfn => by
      obtain rfl : f = 7 := Option.some.inj ((show Tryd.prog.funcNamed "dromond/dromondlaw06.HmacSame" = some 7 by kernel_rfl).symm.trans hf) |>.symm
      obtain rfl : fn = Tryd.f7 := (Option.some.inj (Tryd.func7.symm.trans hfn)).symm
      exact ⟨by kernel_rfl, fun j t ht => by
        have hm := Array.mem_of_getElem? ht
        have hall : (Tryd.f7.params.toList.all fun u => !Tryd.prog.wantsStandIn u) = true := by kernel_rfl
        exact (show Tryd.prog.wantsStandIn t = false by simpa using List.all_eq_true.1 hall t (by simpa using hm))⟩)
    (by kernel_rfl)
#print axioms proved
end Go.Proofs.YtpgadpnaekhiaaaDoor.HmacSame
