/-
  SHA-2's words of 32 bits: the walks of turn, big, small.
  Conditions: words that fit; turns of less than a word.
-/
import Derived.Test.YtpgadpnaekhiaaaDoorBw
import Derived.BigRegion
namespace Go.Proofs.YtpgadpnaekhiaaaDoor.Sha32
open Go.ChangeShapes Go.WideShapes Go.ChangeAt Go.RowKit Go.Deep Go.Proofs.YtpgadpnaekhiaaaDoor.Bw
/-- The form. -/
def FV : Value := .agg #[.int .i64 32, .int .i64 64, .int .i64 2, .int .i64 13, .int .i64 22, .int .i64 6, .int .i64 11, .int .i64 25, .int .i64 7, .int .i64 18, .int .i64 3, .int .i64 17, .int .i64 19, .int .i64 10]
def rotr (x n : Nat) : Nat := x / 2 ^ n ||| x * 2 ^ (32 - n) % 4294967296
theorem shr_lt {x : Nat} (n : Nat) (hx : x < 4294967296) : x / 2 ^ n < 4294967296 := Nat.lt_of_le_of_lt (Nat.div_le_self _ _) hx
theorem rotr_lt {x : Nat} (n : Nat) (hx : x < 4294967296) : rotr x n < 4294967296 := or_lt32 (shr_lt n hx) (Nat.mod_lt _ (by omega))
def bigS (x a b c : Nat) : Nat := rotr x a ^^^ rotr x b ^^^ rotr x c
def smallS (x a b c : Nat) : Nat := rotr x a ^^^ rotr x b ^^^ x / 2 ^ c
theorem bigS_lt {x : Nat} (a b c : Nat) (hx : x < 4294967296) : bigS x a b c < 4294967296 := xor_lt32 (xor_lt32 (rotr_lt a hx) (rotr_lt b hx)) (rotr_lt c hx)
theorem smallS_lt {x : Nat} (a b c : Nat) (hx : x < 4294967296) : smallS x a b c < 4294967296 := xor_lt32 (xor_lt32 (rotr_lt a hx) (rotr_lt b hx)) (shr_lt c hx)
set_option maxRecDepth 100000 in
theorem turn_any (x n : Nat) (w : World) (hx : x < 4294967296) (hn : 0 < n) (hn2 : n < 32) : Calls Tryd.prog 69 #[.int .u32 x, .int .i64 n, FV] w fun e w' => e = .returned (.int .u32 ((rotr x n : Nat) : Int)) ∧ Below w.heap.size w w' := by
  have hni : (n : Int) < 32 := by omega
  have hn0 : 0 < (n : Int) := by omega
  have hor : bits .or .u32 ((x : Int) / 2 ^ n) ((x : Int) * 2 ^ (32 - n) % 4294967296) = ((rotr x n : Nat) : Int) := by
    rw [show (x : Int) / 2 ^ n = ((x / 2 ^ n : Nat) : Int) by simp, show (x : Int) * 2 ^ (32 - n) % 4294967296 = ((x * 2 ^ (32 - n) % 4294967296 : Nat) : Int) by simp]
    exact or32 _ _ (shr_lt n hx) (Nat.mod_lt _ (by omega))
  have HOR := Lib.hid hor
  clear hor
  unfold FV
  go_enter Tryd.func69, Tryd.ntmps69
  go_wp2
  go_region
  go_wp2
  go_ret
  exact ⟨by rw [← HOR.out]; rfl, by ((repeat' (with_reducible first | exact Below.refl _ _ | assumption | refine Below.drew ?_ | refine below_drewN ?_ _ | refine Below.setCell ?_ ?_ _ | refine Below.alloc ?_ ?_ _ | refine Below.ext ?_ ?_ _ | refine Below.trans ?_ (Below.mono ‹_› ?_))) <;> first | omega | (simp; done) | (simp; omega))⟩
set_option maxRecDepth 100000 in
theorem big_any (x a b c : Nat) (w : World) (hx : x < 4294967296) (ha : 0 < a) (ha2 : a < 32) (hb : 0 < b) (hb2 : b < 32) (hc : 0 < c) (hc2 : c < 32) : Calls Tryd.prog 60 #[.int .u32 x, .agg #[.int .i64 a, .int .i64 b, .int .i64 c], FV] w fun e w' => e = .returned (.int .u32 ((bigS x a b c : Nat) : Int)) ∧ Below w.heap.size w w' := by
  have HA := Lib.hid fun W => turn_any x a W hx ha ha2
  have HB := Lib.hid fun W => turn_any x b W hx hb hb2
  have HC := Lib.hid fun W => turn_any x c W hx hc hc2
  have la := rotr_lt a hx
  have lb := rotr_lt b hx
  have lc := rotr_lt c hx
  have HS := Lib.hid (show bigS x a b c = rotr x a ^^^ rotr x b ^^^ rotr x c from rfl)
  generalize bigS x a b c = r at *
  unfold FV at *
  generalize rotr x a = xa at *
  generalize rotr x b = xb at *
  generalize rotr x c = xc at *
  have h1 := xor32 xa xb la lb
  have l1 := xor_lt32 la lb
  generalize xa ^^^ xb = y at *
  have h2 := xor32 y xc l1 lc
  clear l1 la lb lc hx
  go_enter Tryd.func60, Tryd.ntmps60
  go_wp2
  (refine wp_region_ext_lit (by kernel_rfl) (by kernel_rfl) ?_; (repeat (any_goals (first | go_big_quiet_step ((first | (go_at_call 69; with_reducible first | exact Calls.ext_of' (HA.out _) | exact Calls.ext_of (HA.out _) | exact Calls.ext_of_same' (HA.out _) | exact Calls.ext_of_same (HA.out _)) | (go_at_call 69; with_reducible first | exact Calls.ext_of' (HB.out _) | exact Calls.ext_of (HB.out _) | exact Calls.ext_of_same' (HB.out _) | exact Calls.ext_of_same (HB.out _)) | (go_at_call 69; with_reducible first | exact Calls.ext_of' (HC.out _) | exact Calls.ext_of (HC.out _) | exact Calls.ext_of_same' (HC.out _) | exact Calls.ext_of_same (HC.out _)))) | quiet_step ((first | (go_at_call 69; with_reducible first | exact Calls.ext_of' (HA.out _) | exact Calls.ext_of (HA.out _) | exact Calls.ext_of_same' (HA.out _) | exact Calls.ext_of_same (HA.out _)) | (go_at_call 69; with_reducible first | exact Calls.ext_of' (HB.out _) | exact Calls.ext_of (HB.out _) | exact Calls.ext_of_same' (HB.out _) | exact Calls.ext_of_same (HB.out _)) | (go_at_call 69; with_reducible first | exact Calls.ext_of' (HC.out _) | exact Calls.ext_of (HC.out _) | exact Calls.ext_of_same' (HC.out _) | exact Calls.ext_of_same (HC.out _))))))); refine wpQuiet_nil ?_; rintro _ ⟨u, rfl⟩)
  go_wp2
  go_ret
  exact ⟨by rw [HS.out]; rfl, by ((repeat' (with_reducible first | exact Below.refl _ _ | assumption | refine Below.drew ?_ | refine below_drewN ?_ _ | refine Below.setCell ?_ ?_ _ | refine Below.alloc ?_ ?_ _ | refine Below.ext ?_ ?_ _ | refine Below.trans ?_ (Below.mono ‹_› ?_))) <;> first | omega | (simp; done) | (simp; omega))⟩
set_option maxRecDepth 100000 in
theorem small_any (x a b c : Nat) (w : World) (hx : x < 4294967296) (ha : 0 < a) (ha2 : a < 32) (hb : 0 < b) (hb2 : b < 32) (hc2 : c < 32) : Calls Tryd.prog 68 #[.int .u32 x, .agg #[.int .i64 a, .int .i64 b, .int .i64 c], FV] w fun e w' => e = .returned (.int .u32 ((smallS x a b c : Nat) : Int)) ∧ Below w.heap.size w w' := by
  have HA := Lib.hid fun W => turn_any x a W hx ha ha2
  have HB := Lib.hid fun W => turn_any x b W hx hb hb2
  have hci : (c : Int) < 32 := by omega
  have la := rotr_lt a hx
  have lb := rotr_lt b hx
  have lc := shr_lt c hx
  have hsh : (x : Int) / 2 ^ c = ((x / 2 ^ c : Nat) : Int) := by simp
  have HS := Lib.hid (show smallS x a b c = rotr x a ^^^ rotr x b ^^^ x / 2 ^ c from rfl)
  generalize smallS x a b c = r at *
  unfold FV at *
  generalize rotr x a = xa at *
  generalize rotr x b = xb at *
  have HSH := Lib.hid hsh
  generalize x / 2 ^ c = xc at *
  have h1 := xor32 xa xb la lb
  have l1 := xor_lt32 la lb
  generalize xa ^^^ xb = y at *
  have h2 := xor32 y xc l1 lc
  clear l1 la lb lc hx
  go_enter Tryd.func68, Tryd.ntmps68
  go_wp2
  (refine wp_region_ext_lit (by kernel_rfl) (by kernel_rfl) ?_; (repeat (any_goals (first | go_big_quiet_step ((first | (go_at_call 69; with_reducible first | exact Calls.ext_of' (HA.out _) | exact Calls.ext_of (HA.out _) | exact Calls.ext_of_same' (HA.out _) | exact Calls.ext_of_same (HA.out _)) | (go_at_call 69; with_reducible first | exact Calls.ext_of' (HB.out _) | exact Calls.ext_of (HB.out _) | exact Calls.ext_of_same' (HB.out _) | exact Calls.ext_of_same (HB.out _)))) | quiet_step ((first | (go_at_call 69; with_reducible first | exact Calls.ext_of' (HA.out _) | exact Calls.ext_of (HA.out _) | exact Calls.ext_of_same' (HA.out _) | exact Calls.ext_of_same (HA.out _)) | (go_at_call 69; with_reducible first | exact Calls.ext_of' (HB.out _) | exact Calls.ext_of (HB.out _) | exact Calls.ext_of_same' (HB.out _) | exact Calls.ext_of_same (HB.out _))))))); refine wpQuiet_nil ?_; rintro _ ⟨u, rfl⟩)
  go_wp2
  go_ret
  exact ⟨by rw [HS.out]; rfl, by ((repeat' (with_reducible first | exact Below.refl _ _ | assumption | refine Below.drew ?_ | refine below_drewN ?_ _ | refine Below.setCell ?_ ?_ _ | refine Below.alloc ?_ ?_ _ | refine Below.ext ?_ ?_ _ | refine Below.trans ?_ (Below.mono ‹_› ?_))) <;> first | omega | (simp; done) | (simp; omega))⟩
end Go.Proofs.YtpgadpnaekhiaaaDoor.Sha32
