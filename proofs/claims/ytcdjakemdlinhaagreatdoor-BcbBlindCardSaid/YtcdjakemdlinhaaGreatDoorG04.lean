/-
  Several texts in one: Cbr1 Crc1 Crc2 Sx7 Ite1 Ite2 Sx8 Sx9 Rel2 Sx10.
  Conditions: named at each.
-/
import Derived.Test.YtcdjakemdlinhaaGreatDoorG03
import Derived.MapKept
import Derived.ChangeMaps5
set_option linter.unusedSimpArgs false
set_option linter.unusedVariables false
set_option linter.unusedSectionVars false
namespace Go.Proofs.YtcdjakemdlinhaaGreatDoor.Sx
open Go.ChangeShapes Go.WideShapes Go.ChangeAt Go.RowKit Go.Deep
def shf (n : Nat) (k : Nat) : UInt8 := UInt8.ofNat (IntKind.u8.wrap ((n : Int).fdiv (2 ^ k))).toNat
theorem shf_eq (n k i : Nat) (h : 2 ^ k = 256 ^ i) : shf n k = UInt8.ofNat (n / 256 ^ i) := by
 unfold shf
 have e : ((n : Int).fdiv (2 ^ k)) = ((n / 2 ^ k : Nat) : Int) := by
  rw [Int.fdiv_eq_ediv_of_nonneg _ (by exact Int.le_of_lt (Int.pow_pos (by decide)))]
  simp
 rw [e, h]
 generalize n / 256 ^ i = m
 have : IntKind.u8.wrap (m : Int) = ((m % 256 : Nat) : Int) := by simp [IntKind.wrap, IntKind.bits, IntKind.signed]
 rw [this]
 apply UInt8.toNat_inj.1
 simp
 omega
theorem spread1_any (n : Nat) (w : World) (h : n < 2 ^ 8) : Calls Tryz.prog 194 #[.int .u8 (n : Int), .int .i64 1] w (Ret (.string (B (Itm.dg n 1))) w) := by
 have hw : IntKind.u64.wrap (n : Int) = (n : Int) := u64_in (by omega) (by omega)
 refine sx_enter (f := 194) 29 View.no Tryz.func194 rfl rfl rfl (fun _ _ h => by cases h) ?_
 refine zQ 1 (zn (zQ 1 (sx_N (fun b0 => (zq 1 (zn (zs (zQ 3 (zn (sx_block ?_))))))))))
 refine sx_loop (α := Nat) (fun x => match x with | 0 => [0,1,4,5,10,11].zip [(.int .u8 (n : Int)),(I6 1),(St []),(Sl b0 0 1 1),(I6 1),(I6 0)] | _ => [0,1,4,5,10,11].zip [(.int .u8 (n : Int)),(I6 1),(St []),(Sl b0 0 1 1),(I6 1),(I6 1)]) (fun _ => View.no) (fun x => match x with | 0 => [(bK b0 [(.int .u8 0)] 5)] | _ => [(bK b0 [(.int .u8 (IntKind.u8.wrap (((n : Int)).fdiv (2 ^ 0))))] 5)]) (fun x => x ≤ 1) (fun x => 1 - x) 0 (by omega) (look_zip _ _ (by kernel_rfl)) (fun _ h => h.eqv (by kernel_rfl)) ?_
 rintro x hx
 rcases (by omega : x = 0 ∨ x = 1) with rfl | rfl
 ·
  refine zQ 1 (zn (zs (sx_T (zk (zs (sx_block (zQ 2 (zn (zr (zq 4 (sx_E 17 (U6 (IntKind.u64.wrap (n : Int))) (N6 n) (congrArg (Value.int .u64) hw) ?_)))))))))))
  refine zq 8 (sx_S 0 b0 (zn (zr (zq 2 (zn ?_)))))
  refine ⟨1,by omega,by show 1 - 1 < 1 - 0; omega,look_zip _ _ (by kernel_rfl),fun _ h => h.eqv (by kernel_rfl)⟩
 ·
  refine zQ 1 (zn (zs (sx_F (sx_exit (zB [0,1,0] [(b0,1)] (zn (sx_ret (sx_Z [4] [(St [UInt8.ofNat ((IntKind.u8.wrap (((n : Int)).fdiv (2 ^ 0))) : Int).toNat])] (fun W' hM => ?_)))))))))
  refine ⟨?_,hM.below⟩
  show Ending.returned (Value.string (B [shf n 0])) = _
  rw [shf_eq n 0 0 (by decide)]
  rfl
theorem spread2_any (n : Nat) (w : World) (h : n < 2 ^ 16) : Calls Tryz.prog 195 #[.int .u16 (n : Int), .int .i64 2] w (Ret (.string (B (Itm.dg n 2))) w) := by
 have hw : IntKind.u64.wrap (n : Int) = (n : Int) := u64_in (by omega) (by omega)
 refine sx_enter (f := 195) 29 View.no Tryz.func195 rfl rfl rfl (fun _ _ h => by cases h) ?_
 refine zQ 1 (zn (zQ 1 (sx_N (fun b0 => (zq 1 (zn (zs (zQ 3 (zn (sx_block ?_))))))))))
 refine sx_loop (α := Nat) (fun x => match x with | 0 => [0,1,4,5,10,11].zip [(.int .u16 (n : Int)),(I6 2),(St []),(Sl b0 0 2 2),(I6 2),(I6 0)] | 1 => [0,1,4,5,10,11].zip [(.int .u16 (n : Int)),(I6 2),(St []),(Sl b0 0 2 2),(I6 2),(I6 1)] | _ => [0,1,4,5,10,11].zip [(.int .u16 (n : Int)),(I6 2),(St []),(Sl b0 0 2 2),(I6 2),(I6 2)]) (fun _ => View.no) (fun x => match x with | 0 => [(bK b0 [(.int .u8 0),(.int .u8 0)] 5)] | 1 => [(bK b0 [(.int .u8 (IntKind.u8.wrap (((n : Int)).fdiv (2 ^ 8)))),(.int .u8 0)] 5)] | _ => [(bK b0 [(.int .u8 (IntKind.u8.wrap (((n : Int)).fdiv (2 ^ 8)))),(.int .u8 (IntKind.u8.wrap (((n : Int)).fdiv (2 ^ 0))))] 5)]) (fun x => x ≤ 2) (fun x => 2 - x) 0 (by omega) (look_zip _ _ (by kernel_rfl)) (fun _ h => h.eqv (by kernel_rfl)) ?_
 rintro x hx
 rcases (by omega : x = 0 ∨ x = 1 ∨ x = 2) with rfl | rfl | rfl
 ·
  refine zQ 1 (zn (zs (sx_T (zk (zs (sx_block (zQ 2 (zn (zr (zq 4 (sx_E 17 (U6 (IntKind.u64.wrap (n : Int))) (N6 n) (congrArg (Value.int .u64) hw) ?_)))))))))))
  refine zq 8 (sx_S 0 b0 (zn (zr (zq 2 (zn ?_)))))
  refine ⟨1,by omega,by show 2 - 1 < 2 - 0; omega,look_zip _ _ (by kernel_rfl),fun _ h => h.eqv (by kernel_rfl)⟩
 ·
  refine zQ 1 (zn (zs (sx_T (zk (zs (sx_block (zQ 2 (zn (zr (zq 4 (sx_E 17 (U6 (IntKind.u64.wrap (n : Int))) (N6 n) (congrArg (Value.int .u64) hw) ?_)))))))))))
  refine zq 8 (sx_S 0 b0 (zn (zr (zq 2 (zn ?_)))))
  refine ⟨2,by omega,by show 2 - 2 < 2 - 1; omega,look_zip _ _ (by kernel_rfl),fun _ h => h.eqv (by kernel_rfl)⟩
 ·
  refine zQ 1 (zn (zs (sx_F (sx_exit (zB [0,1,0] [(b0,2)] (zn (sx_ret (sx_Z [4] [(St [UInt8.ofNat ((IntKind.u8.wrap (((n : Int)).fdiv (2 ^ 8))) : Int).toNat,UInt8.ofNat ((IntKind.u8.wrap (((n : Int)).fdiv (2 ^ 0))) : Int).toNat])] (fun W' hM => ?_)))))))))
  refine ⟨?_,hM.below⟩
  show Ending.returned (Value.string (B [shf n 8,shf n 0])) = _
  rw [shf_eq n 8 1 (by decide),shf_eq n 0 0 (by decide)]
  rfl
theorem spread4_any (n : Nat) (w : World) (h : n < 2 ^ 32) : Calls Tryz.prog 196 #[.int .u32 (n : Int), .int .i64 4] w (Ret (.string (B (Itm.dg n 4))) w) := by
 have hw : IntKind.u64.wrap (n : Int) = (n : Int) := u64_in (by omega) (by omega)
 refine sx_enter (f := 196) 29 View.no Tryz.func196 rfl rfl rfl (fun _ _ h => by cases h) ?_
 refine zQ 1 (zn (zQ 1 (sx_N (fun b0 => (zq 1 (zn (zs (zQ 3 (zn (sx_block ?_))))))))))
 refine sx_loop (α := Nat) (fun x => match x with | 0 => [0,1,4,5,10,11].zip [(.int .u32 (n : Int)),(I6 4),(St []),(Sl b0 0 4 4),(I6 4),(I6 0)] | 1 => [0,1,4,5,10,11].zip [(.int .u32 (n : Int)),(I6 4),(St []),(Sl b0 0 4 4),(I6 4),(I6 1)] | 2 => [0,1,4,5,10,11].zip [(.int .u32 (n : Int)),(I6 4),(St []),(Sl b0 0 4 4),(I6 4),(I6 2)] | 3 => [0,1,4,5,10,11].zip [(.int .u32 (n : Int)),(I6 4),(St []),(Sl b0 0 4 4),(I6 4),(I6 3)] | _ => [0,1,4,5,10,11].zip [(.int .u32 (n : Int)),(I6 4),(St []),(Sl b0 0 4 4),(I6 4),(I6 4)]) (fun _ => View.no) (fun x => match x with | 0 => [(bK b0 [(.int .u8 0),(.int .u8 0),(.int .u8 0),(.int .u8 0)] 5)] | 1 => [(bK b0 [(.int .u8 (IntKind.u8.wrap (((n : Int)).fdiv (2 ^ 24)))),(.int .u8 0),(.int .u8 0),(.int .u8 0)] 5)] | 2 => [(bK b0 [(.int .u8 (IntKind.u8.wrap (((n : Int)).fdiv (2 ^ 24)))),(.int .u8 (IntKind.u8.wrap (((n : Int)).fdiv (2 ^ 16)))),(.int .u8 0),(.int .u8 0)] 5)] | 3 => [(bK b0 [(.int .u8 (IntKind.u8.wrap (((n : Int)).fdiv (2 ^ 24)))),(.int .u8 (IntKind.u8.wrap (((n : Int)).fdiv (2 ^ 16)))),(.int .u8 (IntKind.u8.wrap (((n : Int)).fdiv (2 ^ 8)))),(.int .u8 0)] 5)] | _ => [(bK b0 [(.int .u8 (IntKind.u8.wrap (((n : Int)).fdiv (2 ^ 24)))),(.int .u8 (IntKind.u8.wrap (((n : Int)).fdiv (2 ^ 16)))),(.int .u8 (IntKind.u8.wrap (((n : Int)).fdiv (2 ^ 8)))),(.int .u8 (IntKind.u8.wrap (((n : Int)).fdiv (2 ^ 0))))] 5)]) (fun x => x ≤ 4) (fun x => 4 - x) 0 (by omega) (look_zip _ _ (by kernel_rfl)) (fun _ h => h.eqv (by kernel_rfl)) ?_
 rintro x hx
 rcases (by omega : x = 0 ∨ x = 1 ∨ x = 2 ∨ x = 3 ∨ x = 4) with rfl | rfl | rfl | rfl | rfl
 ·
  refine zQ 1 (zn (zs (sx_T (zk (zs (sx_block (zQ 2 (zn (zr (zq 4 (sx_E 17 (U6 (IntKind.u64.wrap (n : Int))) (N6 n) (congrArg (Value.int .u64) hw) ?_)))))))))))
  refine zq 8 (sx_S 0 b0 (zn (zr (zq 2 (zn ?_)))))
  refine ⟨1,by omega,by show 4 - 1 < 4 - 0; omega,look_zip _ _ (by kernel_rfl),fun _ h => h.eqv (by kernel_rfl)⟩
 ·
  refine zQ 1 (zn (zs (sx_T (zk (zs (sx_block (zQ 2 (zn (zr (zq 4 (sx_E 17 (U6 (IntKind.u64.wrap (n : Int))) (N6 n) (congrArg (Value.int .u64) hw) ?_)))))))))))
  refine zq 8 (sx_S 0 b0 (zn (zr (zq 2 (zn ?_)))))
  refine ⟨2,by omega,by show 4 - 2 < 4 - 1; omega,look_zip _ _ (by kernel_rfl),fun _ h => h.eqv (by kernel_rfl)⟩
 ·
  refine zQ 1 (zn (zs (sx_T (zk (zs (sx_block (zQ 2 (zn (zr (zq 4 (sx_E 17 (U6 (IntKind.u64.wrap (n : Int))) (N6 n) (congrArg (Value.int .u64) hw) ?_)))))))))))
  refine zq 8 (sx_S 0 b0 (zn (zr (zq 2 (zn ?_)))))
  refine ⟨3,by omega,by show 4 - 3 < 4 - 2; omega,look_zip _ _ (by kernel_rfl),fun _ h => h.eqv (by kernel_rfl)⟩
 ·
  refine zQ 1 (zn (zs (sx_T (zk (zs (sx_block (zQ 2 (zn (zr (zq 4 (sx_E 17 (U6 (IntKind.u64.wrap (n : Int))) (N6 n) (congrArg (Value.int .u64) hw) ?_)))))))))))
  refine zq 8 (sx_S 0 b0 (zn (zr (zq 2 (zn ?_)))))
  refine ⟨4,by omega,by show 4 - 4 < 4 - 3; omega,look_zip _ _ (by kernel_rfl),fun _ h => h.eqv (by kernel_rfl)⟩
 ·
  refine zQ 1 (zn (zs (sx_F (sx_exit (zB [0,1,0] [(b0,4)] (zn (sx_ret (sx_Z [4] [(St [UInt8.ofNat ((IntKind.u8.wrap (((n : Int)).fdiv (2 ^ 24))) : Int).toNat,UInt8.ofNat ((IntKind.u8.wrap (((n : Int)).fdiv (2 ^ 16))) : Int).toNat,UInt8.ofNat ((IntKind.u8.wrap (((n : Int)).fdiv (2 ^ 8))) : Int).toNat,UInt8.ofNat ((IntKind.u8.wrap (((n : Int)).fdiv (2 ^ 0))) : Int).toNat])] (fun W' hM => ?_)))))))))
  refine ⟨?_,hM.below⟩
  show Ending.returned (Value.string (B [shf n 24,shf n 16,shf n 8,shf n 0])) = _
  rw [shf_eq n 24 3 (by decide),shf_eq n 16 2 (by decide),shf_eq n 8 1 (by decide),shf_eq n 0 0 (by decide)]
  rfl
set_option maxHeartbeats 16000000 in
theorem spread8_any (n : Nat) (w : World) (h : n < 2 ^ 64) : Calls Tryz.prog 197 #[.int .u64 (n : Int), .int .i64 8] w (Ret (.string (B (Itm.dg n 8))) w) := by
 have hw : IntKind.u64.wrap (n : Int) = (n : Int) := u64_in (by omega) (by omega)
 refine sx_enter (f := 197) 28 View.no Tryz.func197 rfl rfl rfl (fun _ _ h => by cases h) ?_
 refine zQ 1 (zn (zQ 1 (sx_N (fun b0 => (zq 1 (zn (zs (zQ 3 (zn (sx_block ?_))))))))))
 refine sx_loop (α := Nat) (fun x => match x with | 0 => [0,1,4,5,10,11].zip [(N6 n),(I6 8),(St []),(Sl b0 0 8 8),(I6 8),(I6 0)] | 1 => [0,1,4,5,10,11].zip [(N6 n),(I6 8),(St []),(Sl b0 0 8 8),(I6 8),(I6 1)] | 2 => [0,1,4,5,10,11].zip [(N6 n),(I6 8),(St []),(Sl b0 0 8 8),(I6 8),(I6 2)] | 3 => [0,1,4,5,10,11].zip [(N6 n),(I6 8),(St []),(Sl b0 0 8 8),(I6 8),(I6 3)] | 4 => [0,1,4,5,10,11].zip [(N6 n),(I6 8),(St []),(Sl b0 0 8 8),(I6 8),(I6 4)] | 5 => [0,1,4,5,10,11].zip [(N6 n),(I6 8),(St []),(Sl b0 0 8 8),(I6 8),(I6 5)] | 6 => [0,1,4,5,10,11].zip [(N6 n),(I6 8),(St []),(Sl b0 0 8 8),(I6 8),(I6 6)] | 7 => [0,1,4,5,10,11].zip [(N6 n),(I6 8),(St []),(Sl b0 0 8 8),(I6 8),(I6 7)] | _ => [0,1,4,5,10,11].zip [(N6 n),(I6 8),(St []),(Sl b0 0 8 8),(I6 8),(I6 8)]) (fun _ => View.no) (fun x => match x with | 0 => [(bK b0 [(.int .u8 0),(.int .u8 0),(.int .u8 0),(.int .u8 0),(.int .u8 0),(.int .u8 0),(.int .u8 0),(.int .u8 0)] 5)] | 1 => [(bK b0 [(.int .u8 (IntKind.u8.wrap (((n : Int)).fdiv (2 ^ 56)))),(.int .u8 0),(.int .u8 0),(.int .u8 0),(.int .u8 0),(.int .u8 0),(.int .u8 0),(.int .u8 0)] 5)] | 2 => [(bK b0 [(.int .u8 (IntKind.u8.wrap (((n : Int)).fdiv (2 ^ 56)))),(.int .u8 (IntKind.u8.wrap (((n : Int)).fdiv (2 ^ 48)))),(.int .u8 0),(.int .u8 0),(.int .u8 0),(.int .u8 0),(.int .u8 0),(.int .u8 0)] 5)] | 3 => [(bK b0 [(.int .u8 (IntKind.u8.wrap (((n : Int)).fdiv (2 ^ 56)))),(.int .u8 (IntKind.u8.wrap (((n : Int)).fdiv (2 ^ 48)))),(.int .u8 (IntKind.u8.wrap (((n : Int)).fdiv (2 ^ 40)))),(.int .u8 0),(.int .u8 0),(.int .u8 0),(.int .u8 0),(.int .u8 0)] 5)] | 4 => [(bK b0 [(.int .u8 (IntKind.u8.wrap (((n : Int)).fdiv (2 ^ 56)))),(.int .u8 (IntKind.u8.wrap (((n : Int)).fdiv (2 ^ 48)))),(.int .u8 (IntKind.u8.wrap (((n : Int)).fdiv (2 ^ 40)))),(.int .u8 (IntKind.u8.wrap (((n : Int)).fdiv (2 ^ 32)))),(.int .u8 0),(.int .u8 0),(.int .u8 0),(.int .u8 0)] 5)] | 5 => [(bK b0 [(.int .u8 (IntKind.u8.wrap (((n : Int)).fdiv (2 ^ 56)))),(.int .u8 (IntKind.u8.wrap (((n : Int)).fdiv (2 ^ 48)))),(.int .u8 (IntKind.u8.wrap (((n : Int)).fdiv (2 ^ 40)))),(.int .u8 (IntKind.u8.wrap (((n : Int)).fdiv (2 ^ 32)))),(.int .u8 (IntKind.u8.wrap (((n : Int)).fdiv (2 ^ 24)))),(.int .u8 0),(.int .u8 0),(.int .u8 0)] 5)] | 6 => [(bK b0 [(.int .u8 (IntKind.u8.wrap (((n : Int)).fdiv (2 ^ 56)))),(.int .u8 (IntKind.u8.wrap (((n : Int)).fdiv (2 ^ 48)))),(.int .u8 (IntKind.u8.wrap (((n : Int)).fdiv (2 ^ 40)))),(.int .u8 (IntKind.u8.wrap (((n : Int)).fdiv (2 ^ 32)))),(.int .u8 (IntKind.u8.wrap (((n : Int)).fdiv (2 ^ 24)))),(.int .u8 (IntKind.u8.wrap (((n : Int)).fdiv (2 ^ 16)))),(.int .u8 0),(.int .u8 0)] 5)] | 7 => [(bK b0 [(.int .u8 (IntKind.u8.wrap (((n : Int)).fdiv (2 ^ 56)))),(.int .u8 (IntKind.u8.wrap (((n : Int)).fdiv (2 ^ 48)))),(.int .u8 (IntKind.u8.wrap (((n : Int)).fdiv (2 ^ 40)))),(.int .u8 (IntKind.u8.wrap (((n : Int)).fdiv (2 ^ 32)))),(.int .u8 (IntKind.u8.wrap (((n : Int)).fdiv (2 ^ 24)))),(.int .u8 (IntKind.u8.wrap (((n : Int)).fdiv (2 ^ 16)))),(.int .u8 (IntKind.u8.wrap (((n : Int)).fdiv (2 ^ 8)))),(.int .u8 0)] 5)] | _ => [(bK b0 [(.int .u8 (IntKind.u8.wrap (((n : Int)).fdiv (2 ^ 56)))),(.int .u8 (IntKind.u8.wrap (((n : Int)).fdiv (2 ^ 48)))),(.int .u8 (IntKind.u8.wrap (((n : Int)).fdiv (2 ^ 40)))),(.int .u8 (IntKind.u8.wrap (((n : Int)).fdiv (2 ^ 32)))),(.int .u8 (IntKind.u8.wrap (((n : Int)).fdiv (2 ^ 24)))),(.int .u8 (IntKind.u8.wrap (((n : Int)).fdiv (2 ^ 16)))),(.int .u8 (IntKind.u8.wrap (((n : Int)).fdiv (2 ^ 8)))),(.int .u8 (IntKind.u8.wrap (((n : Int)).fdiv (2 ^ 0))))] 5)]) (fun x => x ≤ 8) (fun x => 8 - x) 0 (by omega) (look_zip _ _ (by kernel_rfl)) (fun _ h => h.eqv (by kernel_rfl)) ?_
 rintro x hx
 rcases (by omega : x = 0 ∨ x = 1 ∨ x = 2 ∨ x = 3 ∨ x = 4 ∨ x = 5 ∨ x = 6 ∨ x = 7 ∨ x = 8) with rfl | rfl | rfl | rfl | rfl | rfl | rfl | rfl | rfl
 ·
  refine zQ 1 (zn (zs (sx_T (zk (zs (sx_block (zQ 2 (zn (zr (zq 11 (sx_S 0 b0 (zn (zr (zq 2 (zn ?_)))))))))))))))
  refine ⟨1,by omega,by show 8 - 1 < 8 - 0; omega,look_zip _ _ (by kernel_rfl),fun _ h => h.eqv (by kernel_rfl)⟩
 ·
  refine zQ 1 (zn (zs (sx_T (zk (zs (sx_block (zQ 2 (zn (zr (zq 11 (sx_S 0 b0 (zn (zr (zq 2 (zn ?_)))))))))))))))
  refine ⟨2,by omega,by show 8 - 2 < 8 - 1; omega,look_zip _ _ (by kernel_rfl),fun _ h => h.eqv (by kernel_rfl)⟩
 ·
  refine zQ 1 (zn (zs (sx_T (zk (zs (sx_block (zQ 2 (zn (zr (zq 11 (sx_S 0 b0 (zn (zr (zq 2 (zn ?_)))))))))))))))
  refine ⟨3,by omega,by show 8 - 3 < 8 - 2; omega,look_zip _ _ (by kernel_rfl),fun _ h => h.eqv (by kernel_rfl)⟩
 ·
  refine zQ 1 (zn (zs (sx_T (zk (zs (sx_block (zQ 2 (zn (zr (zq 11 (sx_S 0 b0 (zn (zr (zq 2 (zn ?_)))))))))))))))
  refine ⟨4,by omega,by show 8 - 4 < 8 - 3; omega,look_zip _ _ (by kernel_rfl),fun _ h => h.eqv (by kernel_rfl)⟩
 ·
  refine zQ 1 (zn (zs (sx_T (zk (zs (sx_block (zQ 2 (zn (zr (zq 11 (sx_S 0 b0 (zn (zr (zq 2 (zn ?_)))))))))))))))
  refine ⟨5,by omega,by show 8 - 5 < 8 - 4; omega,look_zip _ _ (by kernel_rfl),fun _ h => h.eqv (by kernel_rfl)⟩
 ·
  refine zQ 1 (zn (zs (sx_T (zk (zs (sx_block (zQ 2 (zn (zr (zq 11 (sx_S 0 b0 (zn (zr (zq 2 (zn ?_)))))))))))))))
  refine ⟨6,by omega,by show 8 - 6 < 8 - 5; omega,look_zip _ _ (by kernel_rfl),fun _ h => h.eqv (by kernel_rfl)⟩
 ·
  refine zQ 1 (zn (zs (sx_T (zk (zs (sx_block (zQ 2 (zn (zr (zq 11 (sx_S 0 b0 (zn (zr (zq 2 (zn ?_)))))))))))))))
  refine ⟨7,by omega,by show 8 - 7 < 8 - 6; omega,look_zip _ _ (by kernel_rfl),fun _ h => h.eqv (by kernel_rfl)⟩
 ·
  refine zQ 1 (zn (zs (sx_T (zk (zs (sx_block (zQ 2 (zn (zr (zq 11 (sx_S 0 b0 (zn (zr (zq 2 (zn ?_)))))))))))))))
  refine ⟨8,by omega,by show 8 - 8 < 8 - 7; omega,look_zip _ _ (by kernel_rfl),fun _ h => h.eqv (by kernel_rfl)⟩
 ·
  refine zQ 1 (zn (zs (sx_F (sx_exit (zB [0,1,0] [(b0,8)] (zn (sx_ret (sx_Z [4] [(St [UInt8.ofNat ((IntKind.u8.wrap (((n : Int)).fdiv (2 ^ 56))) : Int).toNat,UInt8.ofNat ((IntKind.u8.wrap (((n : Int)).fdiv (2 ^ 48))) : Int).toNat,UInt8.ofNat ((IntKind.u8.wrap (((n : Int)).fdiv (2 ^ 40))) : Int).toNat,UInt8.ofNat ((IntKind.u8.wrap (((n : Int)).fdiv (2 ^ 32))) : Int).toNat,UInt8.ofNat ((IntKind.u8.wrap (((n : Int)).fdiv (2 ^ 24))) : Int).toNat,UInt8.ofNat ((IntKind.u8.wrap (((n : Int)).fdiv (2 ^ 16))) : Int).toNat,UInt8.ofNat ((IntKind.u8.wrap (((n : Int)).fdiv (2 ^ 8))) : Int).toNat,UInt8.ofNat ((IntKind.u8.wrap (((n : Int)).fdiv (2 ^ 0))) : Int).toNat])] (fun W' hM => ?_)))))))))
  refine ⟨?_,hM.below⟩
  show Ending.returned (Value.string (B [shf n 56,shf n 48,shf n 40,shf n 32,shf n 24,shf n 16,shf n 8,shf n 0])) = _
  rw [shf_eq n 56 7 (by decide),shf_eq n 48 6 (by decide),shf_eq n 40 5 (by decide),shf_eq n 32 4 (by decide),shf_eq n 24 3 (by decide),shf_eq n 16 2 (by decide),shf_eq n 8 1 (by decide),shf_eq n 0 0 (by decide)]
  rfl
theorem u8_in {x : Int} (h0 : 0 ≤ x) (h1 : x < 256) : IntKind.u8.wrap x = x := by
 simp [IntKind.wrap, IntKind.bits, IntKind.signed]
 omega
theorem u16_in {x : Int} (h0 : 0 ≤ x) (h1 : x < 65536) : IntKind.u16.wrap x = x := by
 simp [IntKind.wrap, IntKind.bits, IntKind.signed]
 omega
theorem u32_in {x : Int} (h0 : 0 ≤ x) (h1 : x < 4294967296) : IntKind.u32.wrap x = x := by
 simp [IntKind.wrap, IntKind.bits, IntKind.signed]
 omega
theorem orb_all : ∀ m : Fin 8, ∀ c : Fin 32, UInt8.ofNat (orI .u8 (IntKind.u8.wrap ((m.val : Int) * 2 ^ 5)) (c.val : Int)).toNat = UInt8.ofNat (32 * m.val + c.val) := by decide +kernel
theorem orb (m c : Nat) (hm : m ≤ 7) (hc : c < 32) : UInt8.ofNat (orI .u8 (IntKind.u8.wrap ((m : Int) * 2 ^ 5)) (c : Int)).toNat = UInt8.ofNat (32 * m + c) := orb_all ⟨m, by omega⟩ ⟨c, hc⟩
set_option maxRecDepth 100000 in
set_option maxHeartbeats 16000000 in
theorem cHead_any (m n : Nat) (w : World) (hm : m ≤ 7) (hn : n < W64) : Calls Tryz.prog 144 #[.int .i64 (m : Int), .int .u64 (n : Int)] w (Ret (.string (B (Itm.headB m n))) w) := by
 have hm0 : decide ((m : Int) < 0) = false := decide_eq_false (by omega)
 have hm7 : decide ((m : Int) > 7) = false := decide_eq_false (by omega)
 unfold W64 at hn
 have d1 := Itm.dg_length n 1
 have d2 := Itm.dg_length n 2
 have d4 := Itm.dg_length n 4
 have d8 := Itm.dg_length n 8
 refine sx_enter (f := 144) 64 View.no Tryz.func144 rfl rfl rfl (fun _ _ h => by cases h) ?_
 refine zQ 1 (zn (zs (zQ 3 (sx_E 8 (.bool (decide ((m : Int) < 0))) (.bool false) (congrArg Value.bool hm0) ?_))))
 refine zq 3 (zn (sx_F' (decide ((m : Int) > 7)) hm7 ?_))
 refine zk (zQ 2 (sx_E 13 (I6 (IntKind.i64.wrap ((m : Int) * 2 ^ 5))) (I6 ((m : Int) * 2 ^ 5)) i6v ?_))
 refine zq 2 (zn (zs (sx_block (zQ 3 (zn (sx_D (decide ((n : Int) < 24)) (fun h0 => ?_) (fun h0 => ?_)))))))
 ·
  have h0d := of_decide_eq_true h0
  refine zQ 3 (sx_E 20 (.int .u8 (IntKind.u8.wrap (n : Int))) (.int .u8 (n : Int)) (congrArg (Value.int .u8) (u8_in (by omega) (by omega))) ?_)
  refine zq 1 (sx_N (fun b0 => (sx_B [1,0] [(b0,1)] (zn (sx_ret (sx_Z [4] [(St [UInt8.ofNat ((orI .u8 (IntKind.u8.wrap ((m : Int) * 2 ^ 5)) (n : Int)) : Int).toNat])] (fun W' hM => ?_)))))))
  refine ⟨?_,hM.below⟩
  show Ending.returned (Value.string (B [UInt8.ofNat ((orI .u8 (IntKind.u8.wrap ((m : Int) * 2 ^ 5)) (n : Int)) : Int).toNat])) = _
  rw [Itm.headB,if_pos (by omega),orb m n hm (by omega)]
  try rfl
 ·
  have h0d := of_decide_eq_false h0
  refine zQ 3 (zn (sx_D (decide ((n : Int) < 256)) (fun h1 => ?_) (fun h1 => ?_)))
  ·
   have h1d := of_decide_eq_true h1
   refine zs (sx_W 7 2 3 [27,28,29,30,31,32,33] [.val (.int .u8 (IntKind.u8.wrap ((m : Int) * 2 ^ 5))),.val (.int .u8 (orI .u8 (IntKind.u8.wrap ((m : Int) * 2 ^ 5)) 24)),.blk (fun r => (Sl r 0 1 1)) (oK [(.int .u8 (orI .u8 (IntKind.u8.wrap ((m : Int) * 2 ^ 5)) 24))] 5),.val (St [UInt8.ofNat ((orI .u8 (IntKind.u8.wrap ((m : Int) * 2 ^ 5)) 24) : Int).toNat]),.val (N6 n),.val (.int .u8 (n : Int)),.val (St (Itm.dg n 1))] ⟨?_,?_,?_,?_,?_,?_,?_,trivial⟩ ?_)
   · exact oQ 0 rfl (.int .u8 (IntKind.u8.wrap ((m : Int) * 2 ^ 5))) rfl
   · exact oQ 1 rfl (.int .u8 (orI .u8 (IntKind.u8.wrap ((m : Int) * 2 ^ 5)) 24)) rfl
   · exact obN 2 rfl (fun r => (Sl r 0 1 1)) (oK [(.int .u8 (orI .u8 (IntKind.u8.wrap ((m : Int) * 2 ^ 5)) 24))] 5) rfl (by kernel_rfl) (by kernel_rfl)
   · exact obB 3 2 1 rfl (St [UInt8.ofNat ((orI .u8 (IntKind.u8.wrap ((m : Int) * 2 ^ 5)) 24) : Int).toNat]) rfl (fun r => (Sl r 0 1 1)) [(.int .u8 (orI .u8 (IntKind.u8.wrap ((m : Int) * 2 ^ 5)) 24))] 5 rfl 29 rfl (by kernel_rfl) rfl (fun g => by kernel_rfl)
   · exact oQ 4 rfl (N6 n) rfl
   · exact oE 5 rfl (.int .u8 (IntKind.u8.wrap (n : Int))) (.int .u8 (n : Int)) (congrArg (Value.int .u8) (u8_in (by omega) (by omega))) rfl
   · exact obC 6 194 #[(.int .u8 (n : Int)),(I6 1)] rfl (St (Itm.dg n 1)) rfl (by kernel_rfl) (fun W hM => spread1_any n W (by omega)) (by kernel_rfl)
   refine sx_R (St ([UInt8.ofNat ((orI .u8 (IntKind.u8.wrap ((m : Int) * 2 ^ 5)) 24) : Int).toNat] ++ (Itm.dg n 1))) (run_cat _ _ _ _ rfl [UInt8.ofNat ((orI .u8 (IntKind.u8.wrap ((m : Int) * 2 ^ 5)) 24) : Int).toNat] (Itm.dg n 1) (by kernel_rfl) (by kernel_rfl) (by first | omega | (simp only [List.length_append,List.length_cons,List.length_nil]; omega))) ?_
   refine zq 1 (zn (sx_ret (sx_Z [4] [(St ([UInt8.ofNat ((orI .u8 (IntKind.u8.wrap ((m : Int) * 2 ^ 5)) 24) : Int).toNat] ++ (Itm.dg n 1)))] (fun W' hM => ?_))))
   refine ⟨?_,hM.below⟩
   show Ending.returned (Value.string (B ([UInt8.ofNat ((orI .u8 (IntKind.u8.wrap ((m : Int) * 2 ^ 5)) 24) : Int).toNat] ++ (Itm.dg n 1)))) = _
   rw [Itm.headB,if_neg (by omega),if_pos (by omega),(show UInt8.ofNat (orI .u8 (IntKind.u8.wrap ((m : Int) * 2 ^ 5)) 24).toNat = UInt8.ofNat (32 * m + 24) from orb m 24 hm (by omega))]
   try rfl
  ·
   have h1d := of_decide_eq_false h1
   refine zQ 3 (zn (sx_D (decide ((n : Int) < 65536)) (fun h2 => ?_) (fun h2 => ?_)))
   ·
    have h2d := of_decide_eq_true h2
    refine zs (sx_W 7 2 3 [38,39,40,41,42,43,44] [.val (.int .u8 (IntKind.u8.wrap ((m : Int) * 2 ^ 5))),.val (.int .u8 (orI .u8 (IntKind.u8.wrap ((m : Int) * 2 ^ 5)) 25)),.blk (fun r => (Sl r 0 1 1)) (oK [(.int .u8 (orI .u8 (IntKind.u8.wrap ((m : Int) * 2 ^ 5)) 25))] 5),.val (St [UInt8.ofNat ((orI .u8 (IntKind.u8.wrap ((m : Int) * 2 ^ 5)) 25) : Int).toNat]),.val (N6 n),.val (.int .u16 (n : Int)),.val (St (Itm.dg n 2))] ⟨?_,?_,?_,?_,?_,?_,?_,trivial⟩ ?_)
    · exact oQ 0 rfl (.int .u8 (IntKind.u8.wrap ((m : Int) * 2 ^ 5))) rfl
    · exact oQ 1 rfl (.int .u8 (orI .u8 (IntKind.u8.wrap ((m : Int) * 2 ^ 5)) 25)) rfl
    · exact obN 2 rfl (fun r => (Sl r 0 1 1)) (oK [(.int .u8 (orI .u8 (IntKind.u8.wrap ((m : Int) * 2 ^ 5)) 25))] 5) rfl (by kernel_rfl) (by kernel_rfl)
    · exact obB 3 2 1 rfl (St [UInt8.ofNat ((orI .u8 (IntKind.u8.wrap ((m : Int) * 2 ^ 5)) 25) : Int).toNat]) rfl (fun r => (Sl r 0 1 1)) [(.int .u8 (orI .u8 (IntKind.u8.wrap ((m : Int) * 2 ^ 5)) 25))] 5 rfl 40 rfl (by kernel_rfl) rfl (fun g => by kernel_rfl)
    · exact oQ 4 rfl (N6 n) rfl
    · exact oE 5 rfl (.int .u16 (IntKind.u16.wrap (n : Int))) (.int .u16 (n : Int)) (congrArg (Value.int .u16) (u16_in (by omega) (by omega))) rfl
    · exact obC 6 195 #[(.int .u16 (n : Int)),(I6 2)] rfl (St (Itm.dg n 2)) rfl (by kernel_rfl) (fun W hM => spread2_any n W (by omega)) (by kernel_rfl)
    refine sx_R (St ([UInt8.ofNat ((orI .u8 (IntKind.u8.wrap ((m : Int) * 2 ^ 5)) 25) : Int).toNat] ++ (Itm.dg n 2))) (run_cat _ _ _ _ rfl [UInt8.ofNat ((orI .u8 (IntKind.u8.wrap ((m : Int) * 2 ^ 5)) 25) : Int).toNat] (Itm.dg n 2) (by kernel_rfl) (by kernel_rfl) (by first | omega | (simp only [List.length_append,List.length_cons,List.length_nil]; omega))) ?_
    refine zq 1 (zn (sx_ret (sx_Z [4] [(St ([UInt8.ofNat ((orI .u8 (IntKind.u8.wrap ((m : Int) * 2 ^ 5)) 25) : Int).toNat] ++ (Itm.dg n 2)))] (fun W' hM => ?_))))
    refine ⟨?_,hM.below⟩
    show Ending.returned (Value.string (B ([UInt8.ofNat ((orI .u8 (IntKind.u8.wrap ((m : Int) * 2 ^ 5)) 25) : Int).toNat] ++ (Itm.dg n 2)))) = _
    rw [Itm.headB,if_neg (by omega),if_neg (by omega),if_pos (by omega),(show UInt8.ofNat (orI .u8 (IntKind.u8.wrap ((m : Int) * 2 ^ 5)) 25).toNat = UInt8.ofNat (32 * m + 25) from orb m 25 hm (by omega))]
    try rfl
   ·
    have h2d := of_decide_eq_false h2
    refine zQ 3 (zn (sx_D (decide ((n : Int) < 4294967296)) (fun h3 => ?_) (fun h3 => ?_)))
    ·
     have h3d := of_decide_eq_true h3
     refine zs (sx_W 7 2 3 [49,50,51,52,53,54,55] [.val (.int .u8 (IntKind.u8.wrap ((m : Int) * 2 ^ 5))),.val (.int .u8 (orI .u8 (IntKind.u8.wrap ((m : Int) * 2 ^ 5)) 26)),.blk (fun r => (Sl r 0 1 1)) (oK [(.int .u8 (orI .u8 (IntKind.u8.wrap ((m : Int) * 2 ^ 5)) 26))] 5),.val (St [UInt8.ofNat ((orI .u8 (IntKind.u8.wrap ((m : Int) * 2 ^ 5)) 26) : Int).toNat]),.val (N6 n),.val (.int .u32 (n : Int)),.val (St (Itm.dg n 4))] ⟨?_,?_,?_,?_,?_,?_,?_,trivial⟩ ?_)
     · exact oQ 0 rfl (.int .u8 (IntKind.u8.wrap ((m : Int) * 2 ^ 5))) rfl
     · exact oQ 1 rfl (.int .u8 (orI .u8 (IntKind.u8.wrap ((m : Int) * 2 ^ 5)) 26)) rfl
     · exact obN 2 rfl (fun r => (Sl r 0 1 1)) (oK [(.int .u8 (orI .u8 (IntKind.u8.wrap ((m : Int) * 2 ^ 5)) 26))] 5) rfl (by kernel_rfl) (by kernel_rfl)
     · exact obB 3 2 1 rfl (St [UInt8.ofNat ((orI .u8 (IntKind.u8.wrap ((m : Int) * 2 ^ 5)) 26) : Int).toNat]) rfl (fun r => (Sl r 0 1 1)) [(.int .u8 (orI .u8 (IntKind.u8.wrap ((m : Int) * 2 ^ 5)) 26))] 5 rfl 51 rfl (by kernel_rfl) rfl (fun g => by kernel_rfl)
     · exact oQ 4 rfl (N6 n) rfl
     · exact oE 5 rfl (.int .u32 (IntKind.u32.wrap (n : Int))) (.int .u32 (n : Int)) (congrArg (Value.int .u32) (u32_in (by omega) (by omega))) rfl
     · exact obC 6 196 #[(.int .u32 (n : Int)),(I6 4)] rfl (St (Itm.dg n 4)) rfl (by kernel_rfl) (fun W hM => spread4_any n W (by omega)) (by kernel_rfl)
     refine sx_R (St ([UInt8.ofNat ((orI .u8 (IntKind.u8.wrap ((m : Int) * 2 ^ 5)) 26) : Int).toNat] ++ (Itm.dg n 4))) (run_cat _ _ _ _ rfl [UInt8.ofNat ((orI .u8 (IntKind.u8.wrap ((m : Int) * 2 ^ 5)) 26) : Int).toNat] (Itm.dg n 4) (by kernel_rfl) (by kernel_rfl) (by first | omega | (simp only [List.length_append,List.length_cons,List.length_nil]; omega))) ?_
     refine zq 1 (zn (sx_ret (sx_Z [4] [(St ([UInt8.ofNat ((orI .u8 (IntKind.u8.wrap ((m : Int) * 2 ^ 5)) 26) : Int).toNat] ++ (Itm.dg n 4)))] (fun W' hM => ?_))))
     refine ⟨?_,hM.below⟩
     show Ending.returned (Value.string (B ([UInt8.ofNat ((orI .u8 (IntKind.u8.wrap ((m : Int) * 2 ^ 5)) 26) : Int).toNat] ++ (Itm.dg n 4)))) = _
     rw [Itm.headB,if_neg (by omega),if_neg (by omega),if_neg (by omega),if_pos (by omega),(show UInt8.ofNat (orI .u8 (IntKind.u8.wrap ((m : Int) * 2 ^ 5)) 26).toNat = UInt8.ofNat (32 * m + 26) from orb m 26 hm (by omega))]
     try rfl
    ·
     have h3d := of_decide_eq_false h3
     refine zk (zs (sx_W 6 2 3 [57,58,59,60,61,62] [.val (.int .u8 (IntKind.u8.wrap ((m : Int) * 2 ^ 5))),.val (.int .u8 (orI .u8 (IntKind.u8.wrap ((m : Int) * 2 ^ 5)) 27)),.blk (fun r => (Sl r 0 1 1)) (oK [(.int .u8 (orI .u8 (IntKind.u8.wrap ((m : Int) * 2 ^ 5)) 27))] 5),.val (St [UInt8.ofNat ((orI .u8 (IntKind.u8.wrap ((m : Int) * 2 ^ 5)) 27) : Int).toNat]),.val (N6 n),.val (St (Itm.dg n 8))] ⟨?_,?_,?_,?_,?_,?_,trivial⟩ ?_))
     · exact oQ 0 rfl (.int .u8 (IntKind.u8.wrap ((m : Int) * 2 ^ 5))) rfl
     · exact oQ 1 rfl (.int .u8 (orI .u8 (IntKind.u8.wrap ((m : Int) * 2 ^ 5)) 27)) rfl
     · exact obN 2 rfl (fun r => (Sl r 0 1 1)) (oK [(.int .u8 (orI .u8 (IntKind.u8.wrap ((m : Int) * 2 ^ 5)) 27))] 5) rfl (by kernel_rfl) (by kernel_rfl)
     · exact obB 3 2 1 rfl (St [UInt8.ofNat ((orI .u8 (IntKind.u8.wrap ((m : Int) * 2 ^ 5)) 27) : Int).toNat]) rfl (fun r => (Sl r 0 1 1)) [(.int .u8 (orI .u8 (IntKind.u8.wrap ((m : Int) * 2 ^ 5)) 27))] 5 rfl 59 rfl (by kernel_rfl) rfl (fun g => by kernel_rfl)
     · exact oQ 4 rfl (N6 n) rfl
     · exact obC 5 197 #[(N6 n),(I6 8)] rfl (St (Itm.dg n 8)) rfl (by kernel_rfl) (fun W hM => spread8_any n W (by omega)) (by kernel_rfl)
     refine sx_R (St ([UInt8.ofNat ((orI .u8 (IntKind.u8.wrap ((m : Int) * 2 ^ 5)) 27) : Int).toNat] ++ (Itm.dg n 8))) (run_cat _ _ _ _ rfl [UInt8.ofNat ((orI .u8 (IntKind.u8.wrap ((m : Int) * 2 ^ 5)) 27) : Int).toNat] (Itm.dg n 8) (by kernel_rfl) (by kernel_rfl) (by first | omega | (simp only [List.length_append,List.length_cons,List.length_nil]; omega))) ?_
     refine zq 1 (zn (sx_ret (sx_Z [4] [(St ([UInt8.ofNat ((orI .u8 (IntKind.u8.wrap ((m : Int) * 2 ^ 5)) 27) : Int).toNat] ++ (Itm.dg n 8)))] (fun W' hM => ?_))))
     refine ⟨?_,hM.below⟩
     show Ending.returned (Value.string (B ([UInt8.ofNat ((orI .u8 (IntKind.u8.wrap ((m : Int) * 2 ^ 5)) 27) : Int).toNat] ++ (Itm.dg n 8)))) = _
     rw [Itm.headB,if_neg (by omega),if_neg (by omega),if_neg (by omega),if_neg (by omega),(show UInt8.ofNat (orI .u8 (IntKind.u8.wrap ((m : Int) * 2 ^ 5)) 27).toNat = UInt8.ofNat (32 * m + 27) from orb m 27 hm (by omega))]
     try rfl
def crcBit (k : IntKind) (y x : Int) : Int := if andI k x 1 == 1 then xorI k (x.fdiv (2 ^ 1)) y else x.fdiv (2 ^ 1)
def crcBits (k : IntKind) (y : Int) : Nat → Int → Int
 | 0, x => x
 | n + 1, x => crcBits k y n (crcBit k y x)
def crcByte (k : IntKind) (y x : Int) (c : UInt8) : Int := crcBits k y 8 (xorI k x (k.wrap (c.toNat : Int)))
def crcF (k : IntKind) (y x : Int) (l : List UInt8) : Int := l.foldl (crcByte k y) x
theorem crcBits_lt {k : IntKind} {y x : Int} {i : Nat} (h : i < 8) : crcBits k y (8 - i) x = crcBits k y (8 - (i + 1)) (crcBit k y x) := by
 rw [show 8 - i = (8 - (i + 1)) + 1 by omega, crcBits]
theorem crcF_drop {k : IntKind} {y x : Int} {l : List UInt8} {i : Nat} {c : UInt8} (h : l[i]? = some c) : crcF k y x (l.drop i) = crcF k y (crcByte k y x c) (l.drop (i + 1)) := by
 obtain ⟨hl, rfl⟩ := List.getElem?_eq_some_iff.1 h
 rw [List.drop_eq_getElem_cons hl]
 rfl
theorem divideu16_any (x y : Int) (l : List UInt8) (w : World) (hl : l.length ≤ R47) : Calls Tryz.prog 267 #[.int .u16 x, .int .u16 y, .string (B l)] w (Ret (.int .u16 (crcF .u16 y x l)) w) := by
 unfold R47 at hl
 obtain ⟨x0,hx0⟩ : ∃ x0,x0 = x := ⟨_,rfl⟩
 rw [← hx0]
 refine sx_enter (f := 267) 34 View.no Tryz.func267 rfl rfl rfl (fun _ _ h => by cases h) ?_
 refine zQ 1 (zn (zs (zQ 1 ?_)))
 refine sx_bytes 9 160 5 (.tmp 9) rfl l (by kernel_rfl) (by kernel_rfl) (by kernel_rfl) (by kernel_rfl) (by kernel_rfl) (by kernel_rfl) (fun b0 c0 V0 hV0 hB0 hC0 => ?_)
 have hY0 := BysAt.of hB0 (by first | assumption | omega)
 refine zq 2 (zn (sx_block ?_))
 refine sx_loop (α := Nat × Int) (fun x => [0,1,6,10,11,12].zip [(.int .u16 x.2),(.int .u16 y),(.int .u16 0),(Sl b0 0 l.length c0),(L6 l.length),(L6 x.1)]) (fun _ => V0) (fun x => []) (fun x => x.1 ≤ l.length ∧ crcF .u16 y x.2 (l.drop x.1) = crcF .u16 y x0 l) (fun x => l.length - x.1) (0,x0) ?_ (look_zip _ _ (by kernel_rfl)) (fun _ h => h.eqv (by kernel_rfl)) ?_
 · exact ⟨by simp,rfl⟩
 intro x hx
 obtain ⟨hx1,hx2⟩ := hx
 refine zQ 1 (zn (zs (sx_D (decide (((x.1 : Nat) : Int) < (((l.length : Nat)) : Int))) (fun h0 => ?_) (fun h0 => ?_))))
 ·
  have h0d := of_decide_eq_true h0
  refine zk (zs (sx_block (zs (zr ?_))))
  obtain ⟨y1,hy1⟩ : ∃ y,(l)[x.1]? = some y := ⟨(l)[x.1]'(by omega),List.getElem?_eq_getElem _⟩
  obtain ⟨b1,f1,e1,hU1⟩ := hY0.one hy1
  cases e1
  refine sx_R (Pt b0 (0 + x.1)) (run_ix1 _ 5 _ _ rfl b0 0 l.length c0 x.1 .i64 (by kernel_rfl) (by kernel_rfl) (by first | assumption | omega) (by kernel_rfl) (by kernel_rfl)) ?_
  refine zV b0 (0 + x.1) (.int .u8 ((y1.toNat : Nat) : Int)) hU1 5 (.tmp 14) _ Tryz.underlying5 rfl ?_
  refine zq 1 (zn (zQ 5 (zn (zQ 1 (zn (sx_block ?_))))))
  refine sx_loop (α := Nat × Int) (fun z => [0,1,6,8,10,11,12,13,14,15,16,17,18,19,20].zip [(.int .u16 z.2),(.int .u16 y),(.int .u16 0),(.int .u8 ((y1.toNat : Nat) : Int)),(Sl b0 0 l.length c0),(L6 l.length),(L6 x.1),(.bool (decide (((x.1 : Nat) : Int) < (((l.length : Nat)) : Int)))),(Pt b0 (0 + x.1)),(.int .u8 ((y1.toNat : Nat) : Int)),(.int .u16 x.2),(.int .u8 ((y1.toNat : Nat) : Int)),(.int .u16 (IntKind.u16.wrap ((y1.toNat : Nat) : Int))),(.int .u16 (xorI .u16 x.2 (IntKind.u16.wrap ((y1.toNat : Nat) : Int)))),(L6 z.1)]) (fun _ => V0) (fun z => []) (fun z => z.1 ≤ 8 ∧ crcBits .u16 y (8 - z.1) z.2 = crcBits .u16 y 8 (xorI .u16 x.2 (IntKind.u16.wrap ((y1.toNat : Nat) : Int)))) (fun z => 8 - z.1) (0,(xorI .u16 x.2 (IntKind.u16.wrap ((y1.toNat : Nat) : Int)))) ?_ (look_zip _ _ (by kernel_rfl)) (fun _ h => h.eqv (by kernel_rfl)) ?_
  · exact ⟨by simp,rfl⟩
  intro z hz
  obtain ⟨hz1,hz2⟩ := hz
  refine zQ 1 (zn (zs (sx_D (decide (((z.1 : Nat) : Int) < 8)) (fun h1 => ?_) (fun h1 => ?_))))
  ·
   have h1d := of_decide_eq_true h1
   refine zk (zs (sx_block (zQ 3 (zn (sx_D ((andI .u16 z.2 1) == 1) (fun h2 => ?_) (fun h2 => ?_))))))
   ·
    have h2d := eq_of_beq h2
    refine zr (zq 5 (zn (zr (zq 1 (sx_E 31 (I6 (IntKind.i64.wrap (((z.1 : Nat) : Int) + 1))) (I6 (((z.1 : Nat) : Int) + 1)) i6v ?_)))))
    refine zq 1 (zn ?_)
    refine ⟨(z.1 + 1,(xorI .u16 ((z.2).fdiv (2 ^ 1)) y)),?_,?_,look_zip _ _ (by kernel_rfl),fun _ h => h.eqv (by kernel_rfl)⟩
    · exact ⟨by show z.1 + 1 ≤ 8; omega,by rw [← hz2,crcBits_lt (i := z.1) (x := z.2) (by omega),crcBit]; simp only [h2,if_true,if_false,Bool.false_eq_true]⟩
    · show 8 - (z.1 + 1) < 8 - z.1; omega
   ·
    have h2d := beq_eq_false_iff_ne.1 h2
    refine zr (zq 3 (zn (zr (zq 1 (sx_E 31 (I6 (IntKind.i64.wrap (((z.1 : Nat) : Int) + 1))) (I6 (((z.1 : Nat) : Int) + 1)) i6v ?_)))))
    refine zq 1 (zn ?_)
    refine ⟨(z.1 + 1,((z.2).fdiv (2 ^ 1))),?_,?_,look_zip _ _ (by kernel_rfl),fun _ h => h.eqv (by kernel_rfl)⟩
    · exact ⟨by show z.1 + 1 ≤ 8; omega,by rw [← hz2,crcBits_lt (i := z.1) (x := z.2) (by omega),crcBit]; simp only [h2,if_true,if_false,Bool.false_eq_true]⟩
    · show 8 - (z.1 + 1) < 8 - z.1; omega
  ·
   have h1d := of_decide_eq_false h1
   refine sx_exit (zr (zq 1 (sx_E 32 (I6 (IntKind.i64.wrap (((x.1 : Nat) : Int) + 1))) (I6 (((x.1 : Nat) : Int) + 1)) i6v ?_)))
   refine zq 1 (zn ?_)
   refine ⟨(x.1 + 1,z.2),?_,?_,look_zip _ _ (by kernel_rfl),fun _ h => h.eqv (by kernel_rfl)⟩
   · exact ⟨by show x.1 + 1 ≤ _; omega,by rw [← hx2,crcF_drop hy1,crcByte,← hz2,show 8 - z.1 = 0 by omega]; rfl⟩
   · show l.length - (x.1 + 1) < l.length - x.1; omega
 ·
  have h0d := of_decide_eq_false h0
  refine sx_exit (zQ 2 (zn (sx_ret (sx_Z [6] [(.int .u16 x.2)] (fun W' hM => ?_)))))
  exact ⟨by rw [show x.1 = l.length by omega,List.drop_length] at hx2; rw [← hx2]; rfl,hM.below⟩
theorem divideu32_any (x y : Int) (l : List UInt8) (w : World) (hl : l.length ≤ R47) : Calls Tryz.prog 268 #[.int .u32 x, .int .u32 y, .string (B l)] w (Ret (.int .u32 (crcF .u32 y x l)) w) := by
 unfold R47 at hl
 obtain ⟨x0,hx0⟩ : ∃ x0,x0 = x := ⟨_,rfl⟩
 rw [← hx0]
 refine sx_enter (f := 268) 34 View.no Tryz.func268 rfl rfl rfl (fun _ _ h => by cases h) ?_
 refine zQ 1 (zn (zs (zQ 1 ?_)))
 refine sx_bytes 9 160 5 (.tmp 9) rfl l (by kernel_rfl) (by kernel_rfl) (by kernel_rfl) (by kernel_rfl) (by kernel_rfl) (by kernel_rfl) (fun b0 c0 V0 hV0 hB0 hC0 => ?_)
 have hY0 := BysAt.of hB0 (by first | assumption | omega)
 refine zq 2 (zn (sx_block ?_))
 refine sx_loop (α := Nat × Int) (fun x => [0,1,6,10,11,12].zip [(.int .u32 x.2),(.int .u32 y),(.int .u32 0),(Sl b0 0 l.length c0),(L6 l.length),(L6 x.1)]) (fun _ => V0) (fun x => []) (fun x => x.1 ≤ l.length ∧ crcF .u32 y x.2 (l.drop x.1) = crcF .u32 y x0 l) (fun x => l.length - x.1) (0,x0) ?_ (look_zip _ _ (by kernel_rfl)) (fun _ h => h.eqv (by kernel_rfl)) ?_
 · exact ⟨by simp,rfl⟩
 intro x hx
 obtain ⟨hx1,hx2⟩ := hx
 refine zQ 1 (zn (zs (sx_D (decide (((x.1 : Nat) : Int) < (((l.length : Nat)) : Int))) (fun h0 => ?_) (fun h0 => ?_))))
 ·
  have h0d := of_decide_eq_true h0
  refine zk (zs (sx_block (zs (zr ?_))))
  obtain ⟨y1,hy1⟩ : ∃ y,(l)[x.1]? = some y := ⟨(l)[x.1]'(by omega),List.getElem?_eq_getElem _⟩
  obtain ⟨b1,f1,e1,hU1⟩ := hY0.one hy1
  cases e1
  refine sx_R (Pt b0 (0 + x.1)) (run_ix1 _ 5 _ _ rfl b0 0 l.length c0 x.1 .i64 (by kernel_rfl) (by kernel_rfl) (by first | assumption | omega) (by kernel_rfl) (by kernel_rfl)) ?_
  refine zV b0 (0 + x.1) (.int .u8 ((y1.toNat : Nat) : Int)) hU1 5 (.tmp 14) _ Tryz.underlying5 rfl ?_
  refine zq 1 (zn (zQ 5 (zn (zQ 1 (zn (sx_block ?_))))))
  refine sx_loop (α := Nat × Int) (fun z => [0,1,6,8,10,11,12,13,14,15,16,17,18,19,20].zip [(.int .u32 z.2),(.int .u32 y),(.int .u32 0),(.int .u8 ((y1.toNat : Nat) : Int)),(Sl b0 0 l.length c0),(L6 l.length),(L6 x.1),(.bool (decide (((x.1 : Nat) : Int) < (((l.length : Nat)) : Int)))),(Pt b0 (0 + x.1)),(.int .u8 ((y1.toNat : Nat) : Int)),(.int .u32 x.2),(.int .u8 ((y1.toNat : Nat) : Int)),(.int .u32 (IntKind.u32.wrap ((y1.toNat : Nat) : Int))),(.int .u32 (xorI .u32 x.2 (IntKind.u32.wrap ((y1.toNat : Nat) : Int)))),(L6 z.1)]) (fun _ => V0) (fun z => []) (fun z => z.1 ≤ 8 ∧ crcBits .u32 y (8 - z.1) z.2 = crcBits .u32 y 8 (xorI .u32 x.2 (IntKind.u32.wrap ((y1.toNat : Nat) : Int)))) (fun z => 8 - z.1) (0,(xorI .u32 x.2 (IntKind.u32.wrap ((y1.toNat : Nat) : Int)))) ?_ (look_zip _ _ (by kernel_rfl)) (fun _ h => h.eqv (by kernel_rfl)) ?_
  · exact ⟨by simp,rfl⟩
  intro z hz
  obtain ⟨hz1,hz2⟩ := hz
  refine zQ 1 (zn (zs (sx_D (decide (((z.1 : Nat) : Int) < 8)) (fun h1 => ?_) (fun h1 => ?_))))
  ·
   have h1d := of_decide_eq_true h1
   refine zk (zs (sx_block (zQ 3 (zn (sx_D ((andI .u32 z.2 1) == 1) (fun h2 => ?_) (fun h2 => ?_))))))
   ·
    have h2d := eq_of_beq h2
    refine zr (zq 5 (zn (zr (zq 1 (sx_E 31 (I6 (IntKind.i64.wrap (((z.1 : Nat) : Int) + 1))) (I6 (((z.1 : Nat) : Int) + 1)) i6v ?_)))))
    refine zq 1 (zn ?_)
    refine ⟨(z.1 + 1,(xorI .u32 ((z.2).fdiv (2 ^ 1)) y)),?_,?_,look_zip _ _ (by kernel_rfl),fun _ h => h.eqv (by kernel_rfl)⟩
    · exact ⟨by show z.1 + 1 ≤ 8; omega,by rw [← hz2,crcBits_lt (i := z.1) (x := z.2) (by omega),crcBit]; simp only [h2,if_true,if_false,Bool.false_eq_true]⟩
    · show 8 - (z.1 + 1) < 8 - z.1; omega
   ·
    have h2d := beq_eq_false_iff_ne.1 h2
    refine zr (zq 3 (zn (zr (zq 1 (sx_E 31 (I6 (IntKind.i64.wrap (((z.1 : Nat) : Int) + 1))) (I6 (((z.1 : Nat) : Int) + 1)) i6v ?_)))))
    refine zq 1 (zn ?_)
    refine ⟨(z.1 + 1,((z.2).fdiv (2 ^ 1))),?_,?_,look_zip _ _ (by kernel_rfl),fun _ h => h.eqv (by kernel_rfl)⟩
    · exact ⟨by show z.1 + 1 ≤ 8; omega,by rw [← hz2,crcBits_lt (i := z.1) (x := z.2) (by omega),crcBit]; simp only [h2,if_true,if_false,Bool.false_eq_true]⟩
    · show 8 - (z.1 + 1) < 8 - z.1; omega
  ·
   have h1d := of_decide_eq_false h1
   refine sx_exit (zr (zq 1 (sx_E 32 (I6 (IntKind.i64.wrap (((x.1 : Nat) : Int) + 1))) (I6 (((x.1 : Nat) : Int) + 1)) i6v ?_)))
   refine zq 1 (zn ?_)
   refine ⟨(x.1 + 1,z.2),?_,?_,look_zip _ _ (by kernel_rfl),fun _ h => h.eqv (by kernel_rfl)⟩
   · exact ⟨by show x.1 + 1 ≤ _; omega,by rw [← hx2,crcF_drop hy1,crcByte,← hz2,show 8 - z.1 = 0 by omega]; rfl⟩
   · show l.length - (x.1 + 1) < l.length - x.1; omega
 ·
  have h0d := of_decide_eq_false h0
  refine sx_exit (zQ 2 (zn (sx_ret (sx_Z [6] [(.int .u32 x.2)] (fun W' hM => ?_)))))
  exact ⟨by rw [show x.1 = l.length by omega,List.drop_length] at hx2; rw [← hx2]; rfl,hM.below⟩
def x25B (l : List UInt8) : Int := notI .u16 (crcF .u16 33800 65535 l)
def castB (l : List UInt8) : Int := notI .u32 (crcF .u32 2197175160 4294967295 l)
def lo8 (x : Int) : UInt8 := UInt8.ofNat (IntKind.u8.wrap x).toNat
def crcB (k : Int) (l : List UInt8) : List UInt8 := if k == 1 then [lo8 ((x25B l).fdiv (2 ^ 8)), lo8 (x25B l)] else if k == 2 then [lo8 ((castB l).fdiv (2 ^ 24)), lo8 ((castB l).fdiv (2 ^ 16)), lo8 ((castB l).fdiv (2 ^ 8)), lo8 (castB l)] else []
theorem crcB_len {k : Int} (l : List UInt8) (h0 : 0 ≤ k) (h2 : k ≤ 2) : ((crcB k l).length : Int) = 2 * k := by
 unfold crcB
 rcases (by omega : k = 0 ∨ k = 1 ∨ k = 2) with rfl | rfl | rfl <;> rfl
theorem x25_any (l : List UInt8) (w : World) (hl : l.length ≤ R47) : Calls Tryz.prog 261 #[.string (B l)] w (Ret (.int .u16 (x25B l)) w) := by
 refine sx_enter (f := 261) 6 View.no Tryz.func261 rfl rfl rfl (fun _ _ h => by cases h) ?_
 refine zQ 1 (zn (zQ 1 (sx_C 267 #[(.int .u16 65535),(.int .u16 33800),(St l)] (.int .u16 (crcF .u16 33800 65535 l)) (fun W hM => divideu16_any _ _ l W hl) ?_)))
 refine zq 2 (zn (sx_ret (sx_Z [2] [(.int .u16 (notI .u16 (crcF .u16 33800 65535 l)))] (fun W' hM => ?_))))
 exact ⟨rfl,hM.below⟩
theorem cast_any (l : List UInt8) (w : World) (hl : l.length ≤ R47) : Calls Tryz.prog 262 #[.string (B l)] w (Ret (.int .u32 (castB l)) w) := by
 refine sx_enter (f := 262) 6 View.no Tryz.func262 rfl rfl rfl (fun _ _ h => by cases h) ?_
 refine zQ 1 (zn (zQ 1 (sx_C 268 #[(.int .u32 4294967295),(.int .u32 2197175160),(St l)] (.int .u32 (crcF .u32 2197175160 4294967295 l)) (fun W hM => divideu32_any _ _ l W hl) ?_)))
 refine zq 2 (zn (sx_ret (sx_Z [2] [(.int .u32 (notI .u32 (crcF .u32 2197175160 4294967295 l)))] (fun W' hM => ?_))))
 exact ⟨rfl,hM.below⟩
theorem cSize_any (k : Int) (w : World) (h0 : 0 ≤ k) (h2 : k ≤ 2) : Calls Tryz.prog 247 #[.int .i64 k] w (Ret (.int .i64 (2 * k)) w) := by
 have f0 : decide (k < 0) = false := decide_eq_false (by omega)
 have f2 : decide (k > 2) = false := decide_eq_false (by omega)
 refine sx_enter (f := 247) 11 View.no Tryz.func247 rfl rfl rfl (fun _ _ h => by cases h) ?_
 refine zQ 1 (zn (zs (zQ 3 (sx_E 5 (.bool (decide (k < 0))) (.bool false) (congrArg Value.bool f0) ?_))))
 refine zq 3 (zn (sx_F' (decide (k > 2)) f2 ?_))
 refine zk (zQ 2 (sx_E 10 (I6 (IntKind.i64.wrap (2 * k))) (I6 (2 * k)) i6v ?_))
 refine zq 1 (zn (sx_ret (sx_Z [2] [(I6 (2 * k))] (fun W' hM => ?_))))
 exact ⟨rfl,hM.below⟩
theorem cSum_any (k : Int) (l : List UInt8) (w : World) (hl : l.length ≤ R47) : Calls Tryz.prog 252 #[.int .i64 k, .string (B l)] w (Ret (.string (B (crcB k l))) w) := by
 refine sx_enter (f := 252) 36 View.no Tryz.func252 rfl rfl rfl (fun _ _ h => by cases h) ?_
 refine zQ 1 (zn (zs (zQ 1 (zn (sx_block (zQ 2 (zn (sx_D (k == 1) (fun h0 => ?_) (fun h0 => ?_)))))))))
 ·
  refine zQ 1 (sx_C 261 #[(St l)] (.int .u16 (x25B l)) (fun W hM => x25_any l W hl) ?_)
  refine zq 1 (zn (zQ 5 (sx_N (fun b0 => (sx_B [1,0] [(b0,2)] (zn (sx_ret (sx_Z [4] [(St [UInt8.ofNat ((IntKind.u8.wrap (((x25B l)).fdiv (2 ^ 8))) : Int).toNat,UInt8.ofNat ((IntKind.u8.wrap (x25B l)) : Int).toNat])] (fun W' hM => ?_)))))))))
  exact ⟨by simp only [resV,crcB,lo8,h0,bs,if_true,if_false,cond_true,cond_false,reduceIte],hM.below⟩
 ·
  refine zQ 2 (zn (sx_D (k == 2) (fun h1 => ?_) (fun h1 => ?_)))
  ·
   refine zQ 1 (sx_C 262 #[(St l)] (.int .u32 (castB l)) (fun W hM => cast_any l W hl) ?_)
   refine zq 1 (zn (zQ 11 (sx_N (fun b1 => (sx_B [1,0] [(b1,4)] (zn (sx_ret (sx_Z [4] [(St [UInt8.ofNat ((IntKind.u8.wrap (((castB l)).fdiv (2 ^ 24))) : Int).toNat,UInt8.ofNat ((IntKind.u8.wrap (((castB l)).fdiv (2 ^ 16))) : Int).toNat,UInt8.ofNat ((IntKind.u8.wrap (((castB l)).fdiv (2 ^ 8))) : Int).toNat,UInt8.ofNat ((IntKind.u8.wrap (castB l)) : Int).toNat])] (fun W' hM => ?_)))))))))
   exact ⟨by simp only [resV,crcB,lo8,h0,h1,bs,if_true,if_false,cond_true,cond_false,reduceIte],hM.below⟩
  ·
   refine zk (zQ 1 (zn (sx_ret (sx_Z [4] [(St [])] (fun W' hM => ?_)))))
   exact ⟨by simp only [resV,crcB,lo8,h0,h1,bs,if_true,if_false,cond_true,cond_false,reduceIte],hM.below⟩
theorem cOpens4_any (w : World) : Calls Tryz.prog 183 #[.int .i64 4] w (Ret (.bool true) w) := by
 refine sx_enter (f := 183) 13 View.no Tryz.func183 rfl rfl rfl (fun _ _ h => by cases h) ?_
 refine zQ 1 (zn (zQ 11 (zn (sx_ret (sx_Z [2] [(.bool true)] (fun W' hM => ?_))))))
 exact ⟨rfl,hM.below⟩
theorem cOpen4_any (w : World) : Calls Tryz.prog 138 #[.int .i64 4] w (Ret (.string (B [159])) w) := by
 refine sx_enter (f := 138) 12 View.no Tryz.func138 rfl rfl rfl (fun _ _ h => by cases h) ?_
 refine zQ 1 (zn (zs (zQ 1 (sx_C 183 #[(I6 4)] (.bool true) (fun W hM => cOpens4_any W) ?_))))
 refine zq 1 (zn (sx_F (zk (zQ 4 (sx_N (fun b0 => (sx_B [1,0] [(b0,1)] (zn (sx_ret (sx_Z [2] [(St [UInt8.ofNat (159 : Int).toNat])] (fun W' hM => ?_)))))))))))
 exact ⟨rfl,hM.below⟩
theorem cOpens7_any (w : World) : Calls Tryz.prog 183 #[.int .i64 7] w (Ret (.bool true) w) := by
 refine sx_enter (f := 183) 13 View.no Tryz.func183 rfl rfl rfl (fun _ _ h => by cases h) ?_
 refine zQ 1 (zn (zQ 11 (zn (sx_ret (sx_Z [2] [(.bool true)] (fun W' hM => ?_))))))
 exact ⟨rfl,hM.below⟩
theorem cOpen7_any (w : World) : Calls Tryz.prog 138 #[.int .i64 7] w (Ret (.string (B [255])) w) := by
 refine sx_enter (f := 138) 12 View.no Tryz.func138 rfl rfl rfl (fun _ _ h => by cases h) ?_
 refine zQ 1 (zn (zs (zQ 1 (sx_C 183 #[(I6 7)] (.bool true) (fun W hM => cOpens7_any W) ?_))))
 refine zq 1 (zn (sx_F (zk (zQ 4 (sx_N (fun b0 => (sx_B [1,0] [(b0,1)] (zn (sx_ret (sx_Z [2] [(St [UInt8.ofNat (255 : Int).toNat])] (fun W' hM => ?_)))))))))))
 exact ⟨rfl,hM.below⟩
theorem cBytes_any (l : List UInt8) (w : World) (hl : l.length ≤ R47) : Calls Tryz.prog 143 #[.string (B l)] w (Ret (.string (B (Itm.headB 2 l.length ++ l))) w) := by
 have hh := Itm.headB_length 2 l.length
 unfold R47 at hl
 refine sx_enter (f := 143) 9 View.no Tryz.func143 rfl rfl rfl (fun _ _ h => by cases h) ?_
 refine zQ 1 (zn (zQ 3 (sx_E 5 (U6 (IntKind.u64.wrap (((l).length : Nat) : Int))) (N6 ((l).length : Nat)) (congrArg (Value.int .u64) (u64_in (by omega) (by omega))) ?_)))
 refine sx_C 144 #[(I6 2),(N6 ((l).length : Nat))] (St (Itm.headB 2 l.length)) (fun W hM => cHead_any 2 l.length W (by omega) (by unfold W64; omega)) ?_
 refine zq 1 (sx_R (St ((Itm.headB 2 l.length) ++ l)) (run_cat _ _ _ _ rfl (Itm.headB 2 l.length) l (by kernel_rfl) (by kernel_rfl) (by first | omega | (simp only [List.length_append,List.length_cons,List.length_nil]; omega))) ?_)
 refine zq 1 (zn (sx_ret (sx_Z [2] [(St ((Itm.headB 2 l.length) ++ l))] (fun W' hM => ?_))))
 exact ⟨rfl,hM.below⟩
theorem cText_any (l : List UInt8) (w : World) (hl : l.length ≤ R47) : Calls Tryz.prog 210 #[.string (B l)] w (Ret (.string (B (Itm.headB 3 l.length ++ l))) w) := by
 have hh := Itm.headB_length 3 l.length
 unfold R47 at hl
 refine sx_enter (f := 210) 9 View.no Tryz.func210 rfl rfl rfl (fun _ _ h => by cases h) ?_
 refine zQ 1 (zn (zQ 3 (sx_E 5 (U6 (IntKind.u64.wrap (((l).length : Nat) : Int))) (N6 ((l).length : Nat)) (congrArg (Value.int .u64) (u64_in (by omega) (by omega))) ?_)))
 refine sx_C 144 #[(I6 3),(N6 ((l).length : Nat))] (St (Itm.headB 3 l.length)) (fun W hM => cHead_any 3 l.length W (by omega) (by unfold W64; omega)) ?_
 refine zq 1 (sx_R (St ((Itm.headB 3 l.length) ++ l)) (run_cat _ _ _ _ rfl (Itm.headB 3 l.length) l (by kernel_rfl) (by kernel_rfl) (by first | omega | (simp only [List.length_append,List.length_cons,List.length_nil]; omega))) ?_)
 refine zq 1 (zn (sx_ret (sx_Z [2] [(St ((Itm.headB 3 l.length) ++ l))] (fun W' hM => ?_))))
 exact ⟨rfl,hM.below⟩
theorem iNum_any (n : Int) (w : World) : Calls Tryz.prog 40 #[.int .u64 n] w (Ret (.agg #[.int .i64 0, .int .u64 n, .string (B []), .slice none 0 0, .bool false]) w) := by
 refine sx_enter (f := 40) 5 View.no Tryz.func40 rfl rfl rfl (fun _ _ h => by cases h) ?_
 refine zs (zr (sx_N (fun b0 => (zn (zQ 2 (sx_S 0 b0 (zn (sx_ret ?_))))))))
 refine sx_ret_any [.cell 2 89] [(.agg #[(I6 0),(U6 n),(St []),S0,(.bool false)])] rfl ⟨(retK' 0 b0 5),trivial⟩ (fun W' hM => ?_)
 exact ⟨rfl,hM.below⟩
theorem iStr_any (l : List UInt8) (w : World) : Calls Tryz.prog 42 #[.string (B l)] w (Ret (.agg #[.int .i64 2, .int .u64 0, .string (B l), .slice none 0 0, .bool false]) w) := by
 refine sx_enter (f := 42) 5 View.no Tryz.func42 rfl rfl rfl (fun _ _ h => by cases h) ?_
 refine zs (zr (sx_N (fun b0 => (zn (zQ 2 (sx_S 0 b0 (zn (sx_ret ?_))))))))
 refine sx_ret_any [.cell 2 89] [(.agg #[(I6 2),(U6 0),(St l),S0,(.bool false)])] rfl ⟨(retK' 0 b0 5),trivial⟩ (fun W' hM => ?_)
 exact ⟨rfl,hM.below⟩
theorem iList_any (a : Option Addr) (n c : Nat) (w : World) : Calls Tryz.prog 178 #[.slice a n c] w (Ret (.agg #[.int .i64 4, .int .u64 0, .string (B []), .slice a n c, .bool false]) w) := by
 refine sx_enter (f := 178) 5 View.no Tryz.func178 rfl rfl rfl (fun _ _ h => by cases h) ?_
 refine zs (zr (sx_N (fun b0 => (zn (zQ 2 (sx_S 0 b0 (zn (sx_ret ?_))))))))
 refine sx_ret_any [.cell 2 89] [(.agg #[(I6 4),(U6 0),(St []),(.slice a n c),(.bool false)])] rfl ⟨(retK' 0 b0 5),trivial⟩ (fun W' hM => ?_)
 exact ⟨rfl,hM.below⟩
open Go.Proofs.YtcdjakemdlinhaaGreatDoor.Itm (Tr numT arrT)
inductive TV (U : View) : Tr → List Value → Prop
 | mk (k : Int) (n : Nat) (s : List UInt8) (l : List Tr) (o : Bool) (a : Option Addr) (c : Nat) (C : Nat → List Value) (hn : n < W64) (hs : s.length ≤ R47) (hl : l.length ≤ R47)
   (hat : ∀ i, i < l.length → ∃ b f, a = some ⟨b, f, none⟩ ∧ U.range b (f + i * 5) (C i))
   (hel : ∀ i t, l[i]? = some t → TV U t (C i)) : TV U (.mk k n s l o) [.int .i64 k, .int .u64 n, .string (B s), .slice a l.length c, .bool o]
structure TsAt (U : View) (a : Option Addr) (l : List Tr) : Prop where
 at_ : ∀ i x, l[i]? = some x → ∃ b f cs, a = some ⟨b, f, none⟩ ∧ U.range b (f + i * 5) cs ∧ TV U x cs
 len : l.length ≤ R47
theorem TV.le {U V : View} (h : View.le U V) {t : Tr} {cs : List Value} (ht : TV U t cs) : TV V t cs := by
 induction ht with
 | mk k n s l o a c C hn hs hl hat hel ih =>
  refine .mk k n s l o a c C hn hs hl (fun i hi => ?_) ih
  obtain ⟨b, f, e, hr⟩ := hat i hi
  exact ⟨b, f, e, View.range_le h hr⟩
theorem TsAt.le {U V : View} (h : View.le U V) {a : Option Addr} {l : List Tr} (hl : TsAt U a l) : TsAt V a l :=
 ⟨fun i x hx => by obtain ⟨b, f, cs, e, hr, ht⟩ := hl.at_ i x hx; exact ⟨b, f, cs, e, View.range_le h hr, ht.le h⟩, hl.len⟩
theorem TV.form {U : View} {t : Tr} {cs : List Value} (h : TV U t cs) : ∃ a c, cs = [.int .i64 t.k, .int .u64 t.n, .string (B t.s), .slice a t.l.length c, .bool t.o] ∧ TsAt U a t.l ∧ t.n < W64 ∧ t.s.length ≤ R47 ∧ t.l.length ≤ R47 := by
 cases h with
 | mk k n s l o a c C hn hs hl hat hel =>
  refine ⟨a, c, rfl, ⟨fun i x hx => ?_, hl⟩, hn, hs, hl⟩
  obtain ⟨b, f, e, hr⟩ := hat i (List.getElem?_eq_some_iff.1 hx).1
  exact ⟨b, f, C i, e, hr, hel i x hx⟩
theorem TV.of {U : View} {t : Tr} {a : Option Addr} {c : Nat} (h : TsAt U a t.l) (hn : t.n < W64) (hs : t.s.length ≤ R47) : TV U t [.int .i64 t.k, .int .u64 t.n, .string (B t.s), .slice a t.l.length c, .bool t.o] := by
 obtain ⟨k, n, s, l, o⟩ := t
 have hone : ∀ i, i < l.length → ∃ cs : List Value, (∃ b f, a = some ⟨b, f, none⟩ ∧ U.range b (f + i * 5) cs) ∧ ∀ t, l[i]? = some t → TV U t cs := by
  intro i hi
  obtain ⟨b, f, cs, e, hr, ht⟩ := h.at_ i l[i] (List.getElem?_eq_getElem hi)
  refine ⟨cs, ⟨b, f, e, hr⟩, fun t ht2 => ?_⟩
  change l[i]? = some t at ht2
  rw [List.getElem?_eq_getElem hi] at ht2
  rw [← Option.some.inj ht2]; exact ht
 obtain ⟨C, hC⟩ := Deep.choose_lt (α := List Value) hone
 exact .mk k n s l o a c C hn hs h.len (fun i hi => (hC i hi).1) (fun i t ht => (hC i (List.getElem?_eq_some_iff.1 ht).1).2 t ht)
theorem TV.list {U : View} {a : Option Addr} {l : List Tr} (c : Nat) (h : TsAt U a l) : TV U (arrT l) [.int .i64 4, .int .u64 0, .string (B []), .slice a l.length c, .bool false] := TV.of (t := arrT l) (c := c) h (show (0 : Nat) < W64 by decide) (show (0 : Nat) ≤ R47 by decide)
theorem TsAt.nil (U : View) : TsAt U none [] := ⟨fun i x h => by simp at h, by decide⟩
theorem TV.num (U : View) (n : Nat) (hn : n < W64) : TV U (numT n) [.int .i64 0, .int .u64 n, .string (B []), .slice none 0 0, .bool false] := TV.of (t := numT n) (c := 0) (TsAt.nil U) hn (show (0 : Nat) ≤ R47 by decide)
def strT (l : List UInt8) : Tr := .mk 2 0 l [] false
def txtT (l : List UInt8) : Tr := .mk 3 0 l [] false
theorem TV.str (U : View) (l : List UInt8) (hl : l.length ≤ R47) : TV U (strT l) [.int .i64 2, .int .u64 0, .string (B l), .slice none 0 0, .bool false] := TV.of (t := strT l) (c := 0) (TsAt.nil U) (by decide : (0 : Nat) < W64) hl
theorem TV.txt (U : View) (l : List UInt8) (hl : l.length ≤ R47) : TV U (txtT l) [.int .i64 3, .int .u64 0, .string (B l), .slice none 0 0, .bool false] := TV.of (t := txtT l) (c := 0) (TsAt.nil U) (by decide : (0 : Nat) < W64) hl
theorem TV.len5 {U : View} {t : Tr} {cs : List Value} (h : TV U t cs) : cs.length = 5 := by obtain ⟨a, c, rfl, _⟩ := h.form; rfl
theorem range_append {U : View} {b f : Nat} {xs ys : List Value} (h : U.range b f (xs ++ ys)) : U.range b f xs ∧ U.range b (f + xs.length) ys :=
 ⟨fun j v hj => h j v (by rw [List.getElem?_append_left (List.getElem?_eq_some_iff.1 hj).1]; exact hj), fun j v hj => by
  have := h (xs.length + j) v (by rw [List.getElem?_append_right (by omega), Nat.add_sub_cancel_left]; exact hj)
  rw [Nat.add_assoc]; exact this⟩
def AllTV (V : View) : List (Tr × List Value) → Prop
 | [] => True
 | p :: r => TV V p.1 p.2 ∧ AllTV V r
theorem AllTV.get {V : View} : ∀ {L : List (Tr × List Value)}, AllTV V L → ∀ {b f : Nat}, V.range b f (L.flatMap Prod.snd) → ∀ i x, (L.map Prod.fst)[i]? = some x → ∃ cs, V.range b (f + i * 5) cs ∧ TV V x cs
 | [], _, b, f, _, i, x, h => by simp at h
 | p :: r, ⟨h1, h2⟩, b, f, hr, i, x, h => by
  rw [List.flatMap_cons] at hr
  obtain ⟨r1, r2⟩ := range_append hr
  cases i with
  | zero =>
   simp only [List.map_cons, List.getElem?_cons_zero, Option.some.injEq] at h
   subst h
   exact ⟨p.2, by simpa using r1, h1⟩
  | succ i =>
   simp only [List.map_cons, List.getElem?_cons_succ] at h
   obtain ⟨cs, c1, c2⟩ := AllTV.get h2 r2 i x h
   refine ⟨cs, ?_, c2⟩
   rw [h1.len5] at c1
   rw [show f + (i + 1) * 5 = f + 5 + i * 5 by omega]
   exact c1
theorem TsAt.lit {V : View} {b f : Nat} (L : List (Tr × List Value)) (hr : V.range b f (L.flatMap Prod.snd)) (ht : AllTV V L) (hl : (L.map Prod.fst).length ≤ R47) : TsAt V (some ⟨b, f, none⟩) (L.map Prod.fst) :=
 ⟨fun i x hx => by obtain ⟨cs, h1, h2⟩ := ht.get hr i x hx; exact ⟨b, f, cs, rfl, h1, h2⟩, hl⟩
theorem TV.toTAt {U : View} {t : Tr} {cs : List Value} (h : TV U t cs) {w : World} (hU : ∀ a v, U a = some v → w.cell? a = some v) : Itm.TAt w t cs := by
 induction h with
 | mk k n s l o a c C hn hs hl hat hel ih =>
  refine .mk k n s l o a c C hn hs hl (fun i hi => ?_) ih
  obtain ⟨b, f, e, hr⟩ := hat i hi
  refine ⟨b, f, e, ?_, View.range_of hr hU⟩
  have h5 := (hel i l[i] (List.getElem?_eq_getElem hi)).len5
  have := hr 0 ((C i)[0]'(by omega)) (List.getElem?_eq_getElem (by omega))
  exact cell_lt (hU _ _ this)
theorem TV.cast {U : View} {t t' : Tr} {cs : List Value} (h : TV U t cs) (e : t = t') : TV U t' cs := e ▸ h
def Ei.tree (e : Ei) : Itm.Tr := if e.s == 2 then Itm.arrT [Itm.numT 2, Itm.arrT [Itm.numT e.n, Itm.numT e.v]] else if e.l == [110, 111, 110, 101] then Itm.arrT [Itm.numT 1, Itm.numT 0] else Itm.arrT [Itm.numT 1, txtT e.l]
def ItemIs (t : Itm.Tr) (n : Int) : Value → View → Prop := fun v V => ∃ cs, v = .tuple #[.agg cs.toArray, .int .i64 n] ∧ TV V t cs
set_option maxHeartbeats 16000000 in
theorem eItem_any (e : Ei) (w : World) {U : View} (hU : ∀ a v, U a = some v → w.cell? a = some v) (he : e.ok) (hr : eiRight e = true) : Calls Tryz.prog 177 #[e.V] w (RetN w U (ItemIs e.tree 0)) := by
 have hn := he.n
 have hv := he.v
 have hl := he.l
 refine sx_enter (f := 177) 38 U Tryz.func177 rfl rfl rfl hU ?_
 refine zs (zr (sx_N (fun b0 => (sx_N (fun b1 => (zq 1 (zn (zs (sx_block (zB [1] [(b0,4)] (sx_C 37 #[(.agg #[(I6 e.s),(St e.l),(N6 e.n),(N6 e.v)])] (.bool (eiRight e)) (fun W hM => eRight_any e W he.l) ?_)))))))))))
 refine zq 2 (zn (sx_F' (!(eiRight e)) (by rw [hr]; rfl) ?_))
 refine zB [0,1,0,0] [(b0,1)] (zn (sx_D (e.s == 2) (fun h0 => ?_) (fun h0 => ?_)))
 ·
  have h0d := eq_of_beq h0
  refine zs ?_
  refine sx_drawnQ 6 7 4 [13,14,15,16,17,18] [.val (.agg #[(I6 0),(U6 2),(St []),S0,(.bool false)]),.val (Pt b0 2),.val (N6 e.n),.val (.agg #[(I6 0),(N6 e.n),(St []),S0,(.bool false)]),.val (Pt b0 3),.val (N6 e.v)] (by kernel_rfl) rfl rfl (by kernel_rfl) (by kernel_rfl) (by kernel_rfl) (by kernel_rfl) (by kernel_rfl) (by kernel_rfl) (by simp only [List.forall_mem_cons]; exact ⟨trivial,trivial,trivial,trivial,trivial,trivial,fun _ h => by cases h⟩) ⟨?_,?_,?_,?_,?_,?_,trivial⟩ [1,2,3,13,16,18] (fun u => [(Pt b0 0),(Pt b1 0),(I6 0),(.agg #[(I6 0),(U6 2),(St []),S0,(.bool false)]),(.agg #[(I6 0),(N6 e.n),(St []),S0,(.bool false)]),(N6 e.v)]) (fun u => by kernel_rfl) ?_
  ·
   refine oqV 0 40 rfl rfl (.agg #[(I6 0),(U6 2),(St []),S0,(.bool false)]) rfl [] (fun u => []) (fun u => by kernel_rfl) (fun u V hV hd => ?_)
   refine ⟨#[(U6 2)],by kernel_rfl,fun W hW => ?_⟩
   exact iNum_any _ W
  · exact oqQ 1 rfl (Pt b0 2) (Pt b0 2) rfl rfl (fun u => by kernel_rfl) (fun u => by kernel_rfl)
  · exact oqL 2 0 b0 1 [(I6 e.s),(St e.l),(N6 e.n),(N6 e.v)] 24 rfl (N6 e.n) rfl (by kernel_rfl) (fun u => by kernel_rfl) (fun u => by kernel_rfl)
  ·
   refine oqV 3 40 rfl rfl (.agg #[(I6 0),(N6 e.n),(St []),S0,(.bool false)]) rfl [15] (fun u => [(N6 e.n)]) (fun u => by kernel_rfl) (fun u V hV hd => ?_)
   refine ⟨#[(N6 e.n)],by kernel_rfl,fun W hW => ?_⟩
   exact iNum_any _ W
  · exact oqQ 4 rfl (Pt b0 3) (Pt b0 3) rfl rfl (fun u => by kernel_rfl) (fun u => by kernel_rfl)
  · exact oqL 5 0 b0 1 [(I6 e.s),(St e.l),(N6 e.n),(N6 e.v)] 24 rfl (N6 e.v) rfl (by kernel_rfl) (fun u => by kernel_rfl) (fun u => by kernel_rfl)
  intro u2 V2 hV2 hd2
  have k3 := (TV.num _ 2 (by first | assumption | decide | (unfold W64; omega))).le hV2
  have k4 := (TV.num _ e.n (by first | assumption | decide | (unfold W64; omega))).le hV2
  refine sx_C 40 #[(N6 e.v)] (.agg #[(I6 0),(N6 e.v),(St []),S0,(.bool false)]) (fun W hM => iNum_any _ W) ?_
  refine sx_newV [(I6 0),(N6 e.n),(St []),S0,(.bool false),(I6 0),(N6 e.v),(St []),S0,(.bool false)] 89 (fun r => (Sl r 0 2 2)) (by kernel_rfl) (by kernel_rfl) (by kernel_rfl) (fun g5 V5 hV5 hR5 => ?_)
  have k6 := k3.le hV5
  have k7 := k4.le hV5
  have k8 := (TV.num _ e.v (by first | assumption | decide | (unfold W64; omega))).le hV5
  have hT5 : TsAt V5 (some ⟨g5,0,none⟩) [(Itm.numT e.n),(Itm.numT e.v)] := TsAt.lit [((Itm.numT e.n),[(I6 0),(N6 e.n),(St []),S0,(.bool false)]),((Itm.numT e.v),[(I6 0),(N6 e.v),(St []),S0,(.bool false)])] hR5 ⟨k7,k8,trivial⟩ (show 2 ≤ R47 by decide)
  refine sx_C 178 #[(Sl g5 0 2 2)] (.agg #[(I6 4),(U6 0),(St []),(Sl g5 0 2 2),(.bool false)]) (fun W hM => iList_any _ _ _ W) ?_
  refine sx_newV [(I6 0),(U6 2),(St []),S0,(.bool false),(I6 4),(U6 0),(St []),(Sl g5 0 2 2),(.bool false)] 89 (fun r => (Sl r 0 2 2)) (by kernel_rfl) (by kernel_rfl) (by kernel_rfl) (fun g9 V9 hV9 hR9 => ?_)
  have k11 := k6.le hV9
  have k14 := (TV.list 2 hT5).le hV9
  have hT9 : TsAt V9 (some ⟨g9,0,none⟩) [(Itm.numT 2),(Itm.arrT [(Itm.numT e.n),(Itm.numT e.v)])] := TsAt.lit [((Itm.numT 2),[(I6 0),(U6 2),(St []),S0,(.bool false)]),((Itm.arrT [(Itm.numT e.n),(Itm.numT e.v)]),[(I6 4),(U6 0),(St []),(Sl g5 0 2 2),(.bool false)])] hR9 ⟨k11,k14,trivial⟩ (show 2 ≤ R47 by decide)
  refine sx_C 178 #[(Sl g9 0 2 2)] (.agg #[(I6 4),(U6 0),(St []),(Sl g9 0 2 2),(.bool false)]) (fun W hM => iList_any _ _ _ W) ?_
  refine sx_S 1 b1 (zq 1 (zn (sx_ret ?_)))
  refine sx_ret_any [.cell 2 89,.tmp 3] [(.agg #[(I6 4),(U6 0),(St []),(Sl g9 0 2 2),(.bool false)]),(I6 0)] rfl ⟨(retK' 1 b1 5),retT',trivial⟩ (fun W' hM => ?_)
  exact retN_of hM (View.le_trans (View.le_trans hV2 hV5) hV9) ⟨[(I6 4),(U6 0),(St []),(Sl g9 0 2 2),(.bool false)],rfl,((TV.list 2 hT9)).cast (by simp only [Ei.tree,h0,hr,bs,if_true,if_false,cond_true,cond_false,reduceIte])⟩
 ·
  have h0d := beq_eq_false_iff_ne.1 h0
  refine zB [0,1] [(b0,1)] (sx_R (.bool (e.l == [110,111,110,101])) (run_streq _ _ _ _ rfl e.l [110,111,110,101] (by kernel_rfl) (by kernel_rfl)) ?_)
  refine zq 1 (zn (sx_D (e.l == [110,111,110,101]) (fun h1 => ?_) (fun h1 => ?_)))
  ·
   have h1d := eq_of_beq h1
   refine zs (zr (sx_C 40 #[(U6 1)] (.agg #[(I6 0),(U6 1),(St []),S0,(.bool false)]) (fun W hM => iNum_any _ W) ?_))
   refine sx_C 40 #[(U6 0)] (.agg #[(I6 0),(U6 0),(St []),S0,(.bool false)]) (fun W hM => iNum_any _ W) ?_
   refine sx_newV [(I6 0),(U6 1),(St []),S0,(.bool false),(I6 0),(U6 0),(St []),S0,(.bool false)] 89 (fun r => (Sl r 0 2 2)) (by kernel_rfl) (by kernel_rfl) (by kernel_rfl) (fun g15 V15 hV15 hR15 => ?_)
   have k16 := (TV.num _ 1 (by first | assumption | decide | (unfold W64; omega))).le hV15
   have k17 := (TV.num _ 0 (by first | assumption | decide | (unfold W64; omega))).le hV15
   have hT15 : TsAt V15 (some ⟨g15,0,none⟩) [(Itm.numT 1),(Itm.numT 0)] := TsAt.lit [((Itm.numT 1),[(I6 0),(U6 1),(St []),S0,(.bool false)]),((Itm.numT 0),[(I6 0),(U6 0),(St []),S0,(.bool false)])] hR15 ⟨k16,k17,trivial⟩ (show 2 ≤ R47 by decide)
   refine sx_C 178 #[(Sl g15 0 2 2)] (.agg #[(I6 4),(U6 0),(St []),(Sl g15 0 2 2),(.bool false)]) (fun W hM => iList_any _ _ _ W) ?_
   refine sx_S 1 b1 (zq 1 (zn (sx_ret ?_)))
   refine sx_ret_any [.cell 2 89,.tmp 3] [(.agg #[(I6 4),(U6 0),(St []),(Sl g15 0 2 2),(.bool false)]),(I6 0)] rfl ⟨(retK' 1 b1 5),retT',trivial⟩ (fun W' hM => ?_)
   exact retN_of hM hV15 ⟨[(I6 4),(U6 0),(St []),(Sl g15 0 2 2),(.bool false)],rfl,((TV.list 2 hT15)).cast (by simp only [Ei.tree,h0,h1,hr,bs,if_true,if_false,cond_true,cond_false,reduceIte])⟩
  ·
   have h1d := beq_eq_false_iff_ne.1 h1
   refine zk (zs ?_)
   refine sx_drawnQ 4 4 3 [32,33,34,35] [.val (.agg #[(I6 0),(U6 1),(St []),S0,(.bool false)]),.val (Pt b0 1),.val (St e.l),.val (.agg #[(I6 3),(U6 0),(St e.l),S0,(.bool false)])] (by kernel_rfl) rfl rfl (by kernel_rfl) (by kernel_rfl) (by kernel_rfl) (by kernel_rfl) (by kernel_rfl) (by kernel_rfl) (by simp only [List.forall_mem_cons]; exact ⟨trivial,trivial,trivial,trivial,fun _ h => by cases h⟩) ⟨?_,?_,?_,?_,trivial⟩ [2,3,32,35] (fun u => [(Pt b1 0),(I6 0),(.agg #[(I6 0),(U6 1),(St []),S0,(.bool false)]),(.agg #[(I6 3),(U6 0),(St e.l),S0,(.bool false)])]) (fun u => by kernel_rfl) ?_
   ·
    refine oqV 0 40 rfl rfl (.agg #[(I6 0),(U6 1),(St []),S0,(.bool false)]) rfl [] (fun u => []) (fun u => by kernel_rfl) (fun u V hV hd => ?_)
    refine ⟨#[(U6 1)],by kernel_rfl,fun W hW => ?_⟩
    exact iNum_any _ W
   · exact oqQ 1 rfl (Pt b0 1) (Pt b0 1) rfl rfl (fun u => by kernel_rfl) (fun u => by kernel_rfl)
   · exact oqL 2 0 b0 1 [(I6 e.s),(St e.l),(N6 e.n),(N6 e.v)] 24 rfl (St e.l) rfl (by kernel_rfl) (fun u => by kernel_rfl) (fun u => by kernel_rfl)
   · exact oqQ 3 rfl (.agg #[(I6 3),(U6 0),(St e.l),S0,(.bool false)]) (.agg #[(I6 3),(U6 0),(St e.l),S0,(.bool false)]) rfl rfl (fun u => by kernel_rfl) (fun u => by kernel_rfl)
   intro u18 V18 hV18 hd18
   have k19 := (TV.num _ 1 (by first | assumption | decide | (unfold W64; omega))).le hV18
   refine sx_newV [(I6 0),(U6 1),(St []),S0,(.bool false),(I6 3),(U6 0),(St e.l),S0,(.bool false)] 89 (fun r => (Sl r 0 2 2)) (by kernel_rfl) (by kernel_rfl) (by kernel_rfl) (fun g20 V20 hV20 hR20 => ?_)
   have k21 := k19.le hV20
   have hT20 : TsAt V20 (some ⟨g20,0,none⟩) [(Itm.numT 1),(txtT e.l)] := TsAt.lit [((Itm.numT 1),[(I6 0),(U6 1),(St []),S0,(.bool false)]),((txtT e.l),[(I6 3),(U6 0),(St e.l),S0,(.bool false)])] hR20 ⟨k21,(TV.txt _ e.l (by first | assumption | decide | (unfold R47; omega))),trivial⟩ (show 2 ≤ R47 by decide)
   refine sx_C 178 #[(Sl g20 0 2 2)] (.agg #[(I6 4),(U6 0),(St []),(Sl g20 0 2 2),(.bool false)]) (fun W hM => iList_any _ _ _ W) ?_
   refine sx_S 1 b1 (zq 1 (zn (sx_ret ?_)))
   refine sx_ret_any [.cell 2 89,.tmp 3] [(.agg #[(I6 4),(U6 0),(St []),(Sl g20 0 2 2),(.bool false)]),(I6 0)] rfl ⟨(retK' 1 b1 5),retT',trivial⟩ (fun W' hM => ?_)
   exact retN_of hM (View.le_trans hV18 hV20) ⟨[(I6 4),(U6 0),(St []),(Sl g20 0 2 2),(.bool false)],rfl,((TV.list 2 hT20)).cast (by simp only [Ei.tree,h0,h1,hr,bs,if_true,if_false,cond_true,cond_false,reduceIte])⟩
theorem build_num (n : Nat) (hn : n < W64) (a : Option Addr) (c : Nat) (w : World) : Calls Tryz.prog 180 #[.agg #[(.int .i64 0), (.int .u64 (n : Int)), (.string (B [])), (.slice a 0 c), (.bool false)]] w (Ret (.string (B (Itm.headB 0 n))) w) := by
 refine sx_enter (f := 180) 48 View.no Tryz.func180 rfl rfl rfl (fun _ _ h => by cases h) ?_
 refine zs (zr (sx_N (fun b0 => (zq 1 (zn (zs (zB [0,1] [(b0,1)] (zn (sx_block (zQ 2 (zn (sx_T (zB [0,1] [(b0,1)] (sx_C 144 #[(I6 0),(N6 n)] (St (Itm.headB 0 n)) (fun W hM => cHead_any 0 n W (by omega) (by first | assumption | (unfold W64; omega) | decide)) ?_))))))))))))))
 refine zq 1 (zn (sx_ret (sx_Z [2] [(St (Itm.headB 0 n))] (fun W' hM => ?_))))
 exact ⟨rfl,hM.below⟩
theorem build_str (l : List UInt8) (hl : l.length ≤ R47) (a : Option Addr) (c : Nat) (w : World) : Calls Tryz.prog 180 #[.agg #[(.int .i64 2), (.int .u64 0), (.string (B l)), (.slice a 0 c), (.bool false)]] w (Ret (.string (B (Itm.headB 2 l.length ++ l))) w) := by
 refine sx_enter (f := 180) 48 View.no Tryz.func180 rfl rfl rfl (fun _ _ h => by cases h) ?_
 refine zs (zr (sx_N (fun b0 => (zq 1 (zn (zs (zB [0,1] [(b0,1)] (zn (sx_block (zQ 2 (zn (sx_F (zQ 2 (zn (sx_T (zB [0,1] [(b0,1)] (sx_C 143 #[(St l)] (St (Itm.headB 2 l.length ++ l)) (fun W hM => cBytes_any l W (by first | assumption | (unfold R47; omega))) ?_)))))))))))))))))
 refine zq 1 (zn (sx_ret (sx_Z [2] [(St (Itm.headB 2 l.length ++ l))] (fun W' hM => ?_))))
 exact ⟨rfl,hM.below⟩
theorem build_txt (l : List UInt8) (hl : l.length ≤ R47) (a : Option Addr) (c : Nat) (w : World) : Calls Tryz.prog 180 #[.agg #[(.int .i64 3), (.int .u64 0), (.string (B l)), (.slice a 0 c), (.bool false)]] w (Ret (.string (B (Itm.headB 3 l.length ++ l))) w) := by
 refine sx_enter (f := 180) 48 View.no Tryz.func180 rfl rfl rfl (fun _ _ h => by cases h) ?_
 refine zs (zr (sx_N (fun b0 => (zq 1 (zn (zs (zB [0,1] [(b0,1)] (zn (sx_block (zQ 2 (zn (sx_F (zQ 2 (zn (sx_F (zQ 2 (zn (sx_T (zB [0,1] [(b0,1)] (sx_C 210 #[(St l)] (St (Itm.headB 3 l.length ++ l)) (fun W hM => cText_any l W (by first | assumption | (unfold R47; omega))) ?_))))))))))))))))))))
 refine zq 1 (zn (sx_ret (sx_Z [2] [(St (Itm.headB 3 l.length ++ l))] (fun W' hM => ?_))))
 exact ⟨rfl,hM.below⟩
theorem bytesL_drop {l : List Itm.Tr} {i : Nat} {y : Itm.Tr} (h : l[i]? = some y) : Itm.bytesL (l.drop i) = Itm.bytesB y ++ Itm.bytesL (l.drop (i + 1)) := by
 obtain ⟨hl, rfl⟩ := List.getElem?_eq_some_iff.1 h
 rw [List.drop_eq_getElem_cons hl, Itm.bytesL]
def sz50 : Nat := 72057594037927936
set_option maxHeartbeats 16000000 in
theorem build_arr (d : Nat) (l : List Itm.Tr) (o : Bool) {U : View} {w : World} (hU : ∀ a v, U a = some v → w.cell? a = some v) (a : Option Addr) (c : Nat) (hts : TsAt U a l)
    (ih : ∀ (t : Itm.Tr) (cs : List Value) {U : View} {w : World}, (∀ a v, U a = some v → w.cell? a = some v) → TV U t cs → Itm.rightT d t = true → Itm.szT t ≤ sz50 → Calls Tryz.prog 180 #[.agg cs.toArray] w (Ret (.string (B (Itm.bytesB t))) w))
    (hr : l.all (Itm.rightT d) = true) (hsz : Itm.szL l ≤ sz50) :
    Calls Tryz.prog 180 #[.agg #[.int .i64 4, .int .u64 0, .string (B []), .slice a l.length c, .bool o]] w (Ret (.string (B ((if o then [159] else Itm.headB 4 l.length) ++ (Itm.bytesL l ++ (if o then [255] else []))))) w) := by
 have hl47 := hts.len
 unfold R47 at hl47
 have hbl := Itm.bytesL_len l
 have hhl := Itm.headB_length 4 l.length
 have hsz' := hsz
 unfold sz50 at hsz'
 refine sx_enter (f := 180) 48 U Tryz.func180 rfl rfl rfl hU ?_
 refine zs (zr (sx_N (fun b0 => (zq 1 (zn (zs (zB [0,1] [(b0,1)] (zn (sx_block (zQ 2 (zn (sx_F (zQ 2 (zn (sx_F (zQ 2 (zn (sx_F (zk (zB [0,1,0,0] [(b0,1)] (sx_E 27 (U6 (IntKind.u64.wrap (((l.length : Nat)) : Int))) (N6 ((l.length : Nat))) (congrArg (Value.int .u64) (u64_in (by omega) (by omega))) ?_)))))))))))))))))))))
 refine sx_C 144 #[(I6 4),(N6 ((l.length : Nat)))] (St (Itm.headB 4 l.length)) (fun W hM => cHead_any 4 l.length W (by omega) (by first | assumption | (unfold W64; omega) | decide)) ?_
 refine zq 2 (zn (zs (zB [0,1] [(b0,1)] (zn (sx_D o (fun h0 => ?_) (fun h0 => ?_))))))
 ·
  refine zr (sx_C 138 #[(I6 4)] (St [159]) (fun W hM => cOpen4_any W) ?_)
  refine sx_C 138 #[(I6 7)] (St [255]) (fun W hM => cOpen7_any W) ?_
  refine zq 2 (zn (zs (zB [0,1,0,0] [(b0,1)] (zn (sx_block ?_)))))
  refine sx_loop (α := Nat × List UInt8) (fun x => [2,3,4,34,35,36].zip [(St []),(St x.2),(St [255]),(.slice a l.length c),(L6 l.length),(L6 x.1)]) (fun x => U) (fun x => [(b0,.cells [(I6 4),(U6 0),(St []),(.slice a l.length c),(.bool o)].toArray 89 (0,0))]) (fun x => x.1 ≤ l.length ∧ x.2 ++ Itm.bytesL (l.drop x.1) = [159] ++ Itm.bytesL l) (fun x => l.length - x.1) (0,[159]) ?_ (look_zip _ _ (by kernel_rfl)) (fun _ h => h.eqv (by kernel_rfl)) ?_
  · exact ⟨by simp,rfl⟩
  intro x hx
  obtain ⟨hx1,hx2⟩ := hx
  have hxl := congrArg List.length hx2
  simp only [List.length_append,List.length_cons,List.length_nil] at hxl
  refine zQ 1 (zn (zs (sx_D (decide (((x.1 : Nat) : Int) < (((l.length : Nat)) : Int))) (fun h1 => ?_) (fun h1 => ?_))))
  ·
   have h1d := of_decide_eq_true h1
   refine zk (zs (sx_block (zs (zr ?_))))
   obtain ⟨y1,hy1⟩ : ∃ y,(l)[x.1]? = some y := ⟨(l)[x.1]'(by omega),List.getElem?_eq_getElem _⟩
   obtain ⟨b1,f1,cs1,rfl,hU1,ht1⟩ := hts.at_ x.1 y1 hy1
   obtain ⟨a1,c1,rfl,hts1,hn1,hs1,hl1⟩ := ht1.form
   have hyr := List.all_eq_true.1 hr y1 (List.mem_of_getElem? hy1)
   have hyB := Itm.bytesB_len y1
   have hyS := Itm.szT_mem hy1
   have hyL := bytesL_drop hy1
   have hyL2 := congrArg List.length hyL
   simp only [List.length_append] at hyL2
   refine sx_R (Pt b1 (f1 + x.1 * 5)) (rIx 89 rfl b1 f1 l.length c x.1 5) ?_
   refine zU b1 (f1 + x.1 * 5) [(I6 y1.k),(N6 y1.n),(St y1.s),(.slice a1 y1.l.length c1),(.bool y1.o)] hU1 89 (.tmp 38) _ Tryz.underlying89 rfl ?_
   refine sx_N (fun b2 => (sx_S 1 b2 (zn (zr (sx_B [0,2] [(b2,5)] (sx_C 180 #[(.agg #[(I6 y1.k),(N6 y1.n),(St y1.s),(.slice a1 y1.l.length c1),(.bool y1.o)])] (St (Itm.bytesB y1)) (fun W hM => ih _ _ hM.view ht1 hyr (by unfold sz50; omega)) ?_))))))
   refine sx_R (St (x.2 ++ (Itm.bytesB y1))) (run_cat _ _ _ _ rfl x.2 (Itm.bytesB y1) (by kernel_rfl) (by kernel_rfl) (by first | omega | (simp only [List.length_append,List.length_cons,List.length_nil]; omega))) ?_
   refine zq 1 (zn (zr (zq 1 (sx_E 44 (I6 (IntKind.i64.wrap (((x.1 : Nat) : Int) + 1))) (I6 (((x.1 : Nat) : Int) + 1)) i6v ?_))))
   refine zq 1 (zn ?_)
   refine ⟨(x.1 + 1,(x.2 ++ (Itm.bytesB y1))),?_,?_,look_zip _ _ (by kernel_rfl),fun _ h => Mem.sub (List.sublist_append_left _ _) (h.eqv (show _ = ([(b0,.cells [(I6 4),(U6 0),(St []),(Sl b1 f1 l.length c),(.bool o)].toArray 89 (0,0))] : Blks) ++ ([(bK b2 [(I6 y1.k),(N6 y1.n),(St y1.s),(.slice a1 y1.l.length c1),(.bool y1.o)] 89)] : Blks) from by kernel_rfl))⟩
   · exact ⟨by show x.1 + 1 ≤ _; omega,by rw [← hx2,bytesL_drop hy1,List.append_assoc]⟩
   · show l.length - (x.1 + 1) < l.length - x.1; omega
  ·
   have h1d := of_decide_eq_false h1
   refine sx_exit (zQ 2 (sx_R (St (x.2 ++ [255])) (run_cat _ _ _ _ rfl x.2 [255] (by kernel_rfl) (by kernel_rfl) (by first | omega | (simp only [List.length_append,List.length_cons,List.length_nil]; omega))) ?_))
   refine zq 1 (zn (sx_ret (sx_Z [2] [(St (x.2 ++ [255]))] (fun W' hM => ?_))))
   refine ⟨?_,hM.below⟩
   rw [show x.1 = l.length by omega,List.drop_length] at hx2
   simp only [Itm.bytesL,List.append_nil] at hx2
   simp only [resV,hx2,h0,if_true,Bool.false_eq_true,if_false,List.append_assoc,List.append_nil]
 ·
  refine zk (zs (zB [0,1,0,0] [(b0,1)] (zn (sx_block ?_))))
  refine sx_loop (α := Nat × List UInt8) (fun x => [2,3,4,34,35,36].zip [(St []),(St x.2),(St []),(.slice a l.length c),(L6 l.length),(L6 x.1)]) (fun x => U) (fun x => [(b0,.cells [(I6 4),(U6 0),(St []),(.slice a l.length c),(.bool o)].toArray 89 (0,0))]) (fun x => x.1 ≤ l.length ∧ x.2 ++ Itm.bytesL (l.drop x.1) = (Itm.headB 4 l.length) ++ Itm.bytesL l) (fun x => l.length - x.1) (0,(Itm.headB 4 l.length)) ?_ (look_zip _ _ (by kernel_rfl)) (fun _ h => h.eqv (by kernel_rfl)) ?_
  · exact ⟨by simp,rfl⟩
  intro x hx
  obtain ⟨hx1,hx2⟩ := hx
  have hxl := congrArg List.length hx2
  simp only [List.length_append,List.length_cons,List.length_nil] at hxl
  refine zQ 1 (zn (zs (sx_D (decide (((x.1 : Nat) : Int) < (((l.length : Nat)) : Int))) (fun h2 => ?_) (fun h2 => ?_))))
  ·
   have h2d := of_decide_eq_true h2
   refine zk (zs (sx_block (zs (zr ?_))))
   obtain ⟨y3,hy3⟩ : ∃ y,(l)[x.1]? = some y := ⟨(l)[x.1]'(by omega),List.getElem?_eq_getElem _⟩
   obtain ⟨b3,f3,cs3,rfl,hU3,ht3⟩ := hts.at_ x.1 y3 hy3
   obtain ⟨a3,c3,rfl,hts3,hn3,hs3,hl3⟩ := ht3.form
   have hyr := List.all_eq_true.1 hr y3 (List.mem_of_getElem? hy3)
   have hyB := Itm.bytesB_len y3
   have hyS := Itm.szT_mem hy3
   have hyL := bytesL_drop hy3
   have hyL2 := congrArg List.length hyL
   simp only [List.length_append] at hyL2
   refine sx_R (Pt b3 (f3 + x.1 * 5)) (rIx 89 rfl b3 f3 l.length c x.1 5) ?_
   refine zU b3 (f3 + x.1 * 5) [(I6 y3.k),(N6 y3.n),(St y3.s),(.slice a3 y3.l.length c3),(.bool y3.o)] hU3 89 (.tmp 38) _ Tryz.underlying89 rfl ?_
   refine sx_N (fun b4 => (sx_S 1 b4 (zn (zr (sx_B [0,2] [(b4,5)] (sx_C 180 #[(.agg #[(I6 y3.k),(N6 y3.n),(St y3.s),(.slice a3 y3.l.length c3),(.bool y3.o)])] (St (Itm.bytesB y3)) (fun W hM => ih _ _ hM.view ht3 hyr (by unfold sz50; omega)) ?_))))))
   refine sx_R (St (x.2 ++ (Itm.bytesB y3))) (run_cat _ _ _ _ rfl x.2 (Itm.bytesB y3) (by kernel_rfl) (by kernel_rfl) (by first | omega | (simp only [List.length_append,List.length_cons,List.length_nil]; omega))) ?_
   refine zq 1 (zn (zr (zq 1 (sx_E 44 (I6 (IntKind.i64.wrap (((x.1 : Nat) : Int) + 1))) (I6 (((x.1 : Nat) : Int) + 1)) i6v ?_))))
   refine zq 1 (zn ?_)
   refine ⟨(x.1 + 1,(x.2 ++ (Itm.bytesB y3))),?_,?_,look_zip _ _ (by kernel_rfl),fun _ h => Mem.sub (List.sublist_append_left _ _) (h.eqv (show _ = ([(b0,.cells [(I6 4),(U6 0),(St []),(Sl b3 f3 l.length c),(.bool o)].toArray 89 (0,0))] : Blks) ++ ([(bK b4 [(I6 y3.k),(N6 y3.n),(St y3.s),(.slice a3 y3.l.length c3),(.bool y3.o)] 89)] : Blks) from by kernel_rfl))⟩
   · exact ⟨by show x.1 + 1 ≤ _; omega,by rw [← hx2,bytesL_drop hy3,List.append_assoc]⟩
   · show l.length - (x.1 + 1) < l.length - x.1; omega
  ·
   have h2d := of_decide_eq_false h2
   refine sx_exit (zQ 2 (sx_R (St (x.2 ++ [])) (run_cat _ _ _ _ rfl x.2 [] (by kernel_rfl) (by kernel_rfl) (by first | omega | (simp only [List.length_append,List.length_cons,List.length_nil]; omega))) ?_))
   refine zq 1 (zn (sx_ret (sx_Z [2] [(St (x.2 ++ []))] (fun W' hM => ?_))))
   refine ⟨?_,hM.below⟩
   rw [show x.1 = l.length by omega,List.drop_length] at hx2
   simp only [Itm.bytesL,List.append_nil] at hx2
   simp only [resV,hx2,h0,if_true,Bool.false_eq_true,if_false,List.append_assoc,List.append_nil]
theorem build_any : ∀ (d : Nat) (t : Itm.Tr) (cs : List Value) {U : View} {w : World}, (∀ a v, U a = some v → w.cell? a = some v) → TV U t cs → Itm.rightT d t = true → Itm.szT t ≤ sz50 → Calls Tryz.prog 180 #[.agg cs.toArray] w (Ret (.string (B (Itm.bytesB t))) w)
 | 0, t, cs, U, w, _, _, hr, _ => by cases hr
 | d + 1, t, cs, U, w, hU, h, hr, hsz => by
  obtain ⟨a, c, rfl, hts, hn, hs, hl⟩ := h.form
  unfold Itm.rightT at hr
  rw [Bool.and_eq_true] at hr
  obtain ⟨hok, hall⟩ := hr
  obtain ⟨k, n, s, l, o⟩ := t
  simp only [Itm.Tr.k, Itm.Tr.n, Itm.Tr.s, Itm.Tr.l, Itm.Tr.o] at *
  rw [Itm.szT] at hsz
  rcases Itm.okN_true hok with ⟨rfl, rfl, hlen, rfl⟩ | ⟨rfl, rfl, hlen, rfl⟩ | ⟨rfl, rfl, hlen, rfl⟩ | ⟨rfl, rfl, rfl, hle⟩
  ·
   obtain rfl := List.length_eq_zero_iff.1 hlen
   exact build_num n hn a c w
  ·
   obtain rfl := List.length_eq_zero_iff.1 hlen
   exact build_str s hs a c w
  ·
   obtain rfl := List.length_eq_zero_iff.1 hlen
   exact build_txt s hs a c w
  · exact build_arr d l o hU a c hts (build_any d) hall (by omega)
theorem iBuild_any (t : Itm.Tr) (cs : List Value) {U : View} {w : World} (hU : ∀ a v, U a = some v → w.cell? a = some v) (h : TV U t cs) (hr : Itm.rightT 8 t = true) (hsz : Itm.szT t ≤ sz50) : Calls Tryz.prog 136 #[.agg cs.toArray] w (Ret (.tuple #[.string (B (Itm.bytesB t)), .int .i64 0]) w) := by
 have h0 := h
 obtain ⟨a,c,rfl,hts,hn,hs,hl⟩ := h.form
 refine sx_enter (f := 136) 9 U Tryz.func136 rfl rfl rfl hU ?_
 refine zs (zr (sx_N (fun b0 => (zq 2 (zn (zs (zB [1] [(b0,5)] (sx_C 179 #[(.agg #[(I6 t.k),(N6 t.n),(St t.s),(.slice a t.l.length c),(.bool t.o)])] (.bool (Itm.rightT 8 t)) (fun W hM => Itm.iRight_any t _ W (h0.toTAt hM.view)) ?_))))))))
 refine zq 1 (zn (sx_F' (!(Itm.rightT 8 t)) (by rw [hr]; rfl) ?_))
 refine zk (zB [1] [(b0,5)] (sx_C 180 #[(.agg #[(I6 t.k),(N6 t.n),(St t.s),(.slice a t.l.length c),(.bool t.o)])] (St (Itm.bytesB t)) (fun W hM => build_any 8 t _ hM.view h0 hr hsz) ?_))
 refine zq 2 (zn (sx_ret (sx_Z [2,3] [(St (Itm.bytesB t)),(I6 0)] (fun W' hM => ?_))))
 exact ⟨rfl,hM.below⟩
theorem Mem.perm {W0 : Cx} {W : World} {U : View} {σ σ' : Blks} (hp : σ.Perm σ') (h : Mem W0 U σ W) : Mem W0 U σ' W := by
 obtain ⟨h1, h0, h2, h3, h4⟩ := h
 have hnd : (σ.map Prod.fst).Nodup := by
  refine List.pairwise_iff_getElem.2 fun i j hi hj hij he => ?_
  rw [List.length_map] at hi hj
  rw [List.getElem_map, List.getElem_map] at he
  have := h4 i j _ _ (List.getElem?_eq_getElem hi) (List.getElem?_eq_getElem hj) he
  omega
 have hnd' : (σ'.map Prod.fst).Nodup := (hp.map Prod.fst).nodup_iff.1 hnd
 refine ⟨h1, h0, h2, fun k b o hk => ?_, fun j k x y hj hk e => ?_⟩
 ·
  have hm : (b, o) ∈ σ := hp.mem_iff.2 (List.mem_of_getElem? hk)
  obtain ⟨i, hi⟩ := List.getElem?_of_mem hm
  exact h3 i b o hi
 ·
  have hq := List.pairwise_iff_getElem.1 hnd'
  obtain ⟨hjl, rfl⟩ := List.getElem?_eq_some_iff.1 hj
  obtain ⟨hkl, rfl⟩ := List.getElem?_eq_some_iff.1 hk
  rcases Nat.lt_trichotomy j k with hl | hl | hl
  · exact absurd (by rw [List.getElem_map, List.getElem_map]; exact e) (hq j k (by simpa using hjl) (by simpa using hkl) hl)
  · exact hl
  · exact absurd (by rw [List.getElem_map, List.getElem_map]; exact e.symm) (hq k j (by simpa using hkl) (by simpa using hjl) hl)
section
variable {P : Program} {n : Nat} {W0 : Cx} {Q : XQ} {s : Slots} {U : View} {σ : Blks} {ops : Array Oper} {l : List Oper} {o : Oper}
theorem sx_newR (σ1 ρ : Blks) (hσ : σ = σ1 ++ ρ) (x : Obj) (v : Nat → Value) (hm : makes P s o = some (x, fun r => some (v r))) (hd : dstOk n o = true) (hw : wantS ops s o = some true)
  (h : ∀ b, SXL P n W0 Q ops l (putS o (v b) s) U ((σ1 ++ [(b, x)]) ++ ρ)) : SXL P n W0 Q ops (o :: l) s U σ := by
 subst hσ
 refine sx_new x v hm hd hw fun b => sx_mem U _ (fun W hM => hM.perm ?_) (h b)
 rw [List.append_assoc, List.append_assoc]
 exact List.Perm.append (List.Perm.refl _) List.perm_append_comm
theorem sx_appE (r : Rw) (xs : List Value) (m : Nat) (σ1 : Blks) (e : TypeId) (t : TypeId) (z bytes k : Nat) (hσ : σ = σ1 ++ r.B e xs) (hok : r.ok z m xs) (x y : Operand) (ho : o.op = .call { callee := .builtin .append, args := #[x, y], argTypes := #[t, t] }) (hx : evS s x = some (r.V m))
  (b f c : Nat) (news : List Value) (hy : evS s y = some (.slice (some ⟨b, f, none⟩) k c)) (hnews : ∀ W, Mem W0 U σ W → W.rangeAt b f news) (hl : news.length = k * z) (h1 : ∀ u ∈ news, u.oneCell' = true) (hk : 0 < k) (h63 : m + k ≤ maxLen) (hby : (m + k) * bytes ≤ 140737488355328)
  (hi : (P.info? e).map (fun i => (i.size, i.bytes, i.zero.map (·.cells.size))) = some (z, bytes, some z)) (ht : P.underlying t = some (.slice e)) (hz0 : Nat.blt 0 z = true)
  (hd : dstOk n o = true) (hw : wantS ops s o = some true)
  (h : ∀ r' : Rw, r'.ok z (m + k) (xs ++ news) → SXL P n W0 Q ops l (putS o (r'.V (m + k)) s) U (σ1 ++ r'.B e (xs ++ news))) : SXL P n W0 Q ops (o :: l) s U σ := by
 cases hq : P.info? e with
 | none => rw [hq] at hi; cases hi
 | some inf =>
  rw [hq] at hi
  simp only [Option.map_some, Option.some.injEq, Prod.mk.injEq] at hi
  obtain ⟨h2, h3, h4⟩ := hi
  obtain ⟨zv, hz1, hz2⟩ := Option.map_eq_some_iff.1 h4
  refine sx_app r xs m σ1 [] e t z bytes k (by rw [List.append_nil]; exact hσ) hok x y ho hx b f c news hy hnews hl (List.all_eq_true.2 h1) hk h63 hby inf zv ht hq hz1 h2 h3 hz2 (by simpa [Nat.blt_eq] using hz0) hd hw fun r' hr' => ?_
  have := h r' hr'
  rw [List.append_nil]
  exact this
def RetR (w : World) (e : TypeId) (z n : Nat) (xs : List Value) : Ending → World → Prop := fun en w' => ∃ b cap junk, en = .returned (.slice (some ⟨b, 0, none⟩) n cap) ∧ Below w.heap.size w w' ∧ w.heap.size ≤ b ∧ w'.heap[b]? = some (.cells (xs ++ junk).toArray e (0, 0)) ∧ (Rw.row b cap junk).ok z n xs
theorem sx_callR (f : FuncId) (args : Array Value) (e : TypeId) (z m : Nat) (xs : List Value) (he : enters P s o = some (f, args)) (hc : ∀ W, Mem W0 U σ W → Calls P f args W (RetR W e z m xs)) (hd : dstOk n o = true) (hw : wantS ops s o = some true)
  (h : ∀ b cap junk, (Rw.row b cap junk).ok z m xs → SXL P n W0 Q ops l (putS o (.slice (some ⟨b, 0, none⟩) m cap) s) U (σ ++ [(b, .cells (xs ++ junk).toArray e (0, 0))])) : SXL P n W0 Q ops (o :: l) s U σ := by
 refine sx_callX f args he hd hw fun W hM => (hc W hM).mono ?_
 rintro en W' ⟨b, cap, junk, rfl, hb, hge, hat, hok⟩
 refine ⟨_, _, U, _, rfl, ?_, rfl, h b cap junk hok⟩
 have hM' := hM.call hb
 have hs : Mem W0 U (σ ++ ([] ++ [])) W' := by simpa using hM'
 have := hs.swap (B' := [(b, .cells (xs ++ junk).toArray e (0, 0))]) hM'.below (fun _ _ _ => rfl) hM'.view (.inr ⟨b, _, rfl, hat, Nat.le_trans hM.below.size hge, fun a ha => ?_, fun k x hx he => ?_⟩)
 · simpa using this
 ·
  cases hu : U a with
  | none => rfl
  | some v => have := cell_lt (hM.view a v hu); omega
 ·
  have := lt_of_heap (hM.own k x.1 x.2 (by simpa using hx)).1
  omega
theorem retR_of {w W' : World} {U V : View} {σ1 : Blks} {r : Rw} {e : TypeId} {z m : Nat} {xs : List Value} (hM : Mem ⟨w, U⟩ V (σ1 ++ r.B e xs) W') (hok : r.ok z m xs) (hm : 0 < m) : RetR w e z m xs (.returned (r.V m)) W' := by
 cases r with
 | nil => obtain ⟨rfl, _⟩ := hok; omega
 | row b cap junk =>
  obtain ⟨q1, q2, _⟩ := hM.own (σ1.length + 0) b (.cells (xs ++ junk).toArray e (0, 0)) (by
   have := getElem?_mid σ1 [(b, Obj.cells (xs ++ junk).toArray e (0, 0))] [] 0 _ rfl
   rw [List.append_nil] at this
   exact this)
  exact ⟨b, cap, junk, rfl, hM.below, q2, q1, hok⟩
theorem sx_sP (k b off m : Nat) (cs : List Value) (t ty : TypeId) (v : Value) (x y : Operand) (ho : o.op = .store ty x y) (hx : evS s x = some (.pointer (some ⟨b, off, none⟩))) (hy : evS s y = some v)
  (hk : σ[k]? = some (b, .cells cs.toArray t (0, 0))) (hs : storeOk P ty v m = true) (hl : off + m ≤ cs.length) (hd : o.dst = none) (hw : wantS ops s o = some true)
  (h : SXL P n W0 Q ops l s U (σ.set k (b, .cells (stCells cs off v.cells.toList).toArray t (0, 0)))) : SXL P n W0 Q ops (o :: l) s U σ := by
 refine sx_st k b off m cs t ty v x y ho hx hy hk hs (Nat.ble_eq_true_of_le hl) (by unfold dstOk; rw [hd]) hw ?_
 unfold putS
 rw [hd]
 exact h
theorem run_nileq (t yt : TypeId) (x y : Operand) (ho : o.op = .binOp .eql t x y yt) (a : Option Addr) (k c : Nat) (e : TypeId) (hx : evS s x = some (.slice a k c)) (hy : evS s y = some (.slice none 0 0)) (hu : P.underlying t = some (.slice e)) (W : World) : (execOp (ev s) o).run P W = .ok (.value (.bool a.isNone)) W := by
 unfold execOp
 simp only [ho, ev_of hx, ev_of hy, binOp, eqGuard, Op.equal]
 obtain ⟨d, hm⟩ : ∃ d, Op.maxDepth = d + 1 := ⟨9999, rfl⟩
 rw [hm]
 clear hm
 cases a <;> simp only [Op.equalIn, Sem.run_bind, run_underlying hu W, Result.andThen_ok, Sem.run_pure, show ((BinOp.eql matches .eql | .neq) = true) = True from by simp, Bool.not_true, Bool.not_false, Bool.false_eq_true, if_false, if_true, Option.isNone_none, Option.isNone_some] <;> rfl
theorem sx_freeze (σ1 σ2 : Blks) (b : Nat) (cs : List Value) (t : TypeId) (hσ : σ = σ1 ++ ((b, .cells cs.toArray t (0, 0)) :: σ2)) (h : ∀ V, View.le U V → V.range b 0 cs → SXL P n W0 Q ops l s V (σ1 ++ σ2)) : SXL P n W0 Q ops l s U σ := by
 subst hσ
 refine ⟨fun a W ha hM => ?_⟩
 have hs : Mem W0 U (σ1 ++ σ2) W := hM.sub (List.Sublist.append (List.Sublist.refl _) (List.sublist_cons_self _ _))
 have hin : (σ1 ++ ((b, Obj.cells cs.toArray t (0, 0)) :: σ2))[σ1.length]? = some (b, .cells cs.toArray t (0, 0)) := by
  rw [List.getElem?_append_right (Nat.le_refl _), Nat.sub_self]; rfl
 obtain ⟨q1, q2, _⟩ := hM.own _ _ _ hin
 obtain ⟨V, h1, h2, h3⟩ := hs.addView q1 q2 fun k x hx he => by
  have hex : ∃ i, (σ1 ++ ((b, Obj.cells cs.toArray t (0, 0)) :: σ2))[i]? = some x ∧ i ≠ σ1.length := by
   by_cases hk : k < σ1.length
   · exact ⟨k, by rw [List.getElem?_append_left hk] at hx ⊢; exact hx, by omega⟩
   ·
    refine ⟨k + 1, ?_, by omega⟩
    rw [List.getElem?_append_right (by omega)] at hx
    rw [List.getElem?_append_right (by omega), show k + 1 - σ1.length = (k - σ1.length) + 1 by omega, List.getElem?_cons_succ]
    exact hx
  obtain ⟨i, hi, hne⟩ := hex
  exact hne (hM.apart i _ _ _ hi hin he)
 exact (h V h1 h2).go a W ha h3
end
theorem rangeAt_own {W0 : Cx} {W : World} {U : View} {σ : Blks} (hM : Mem W0 U σ W) (k b : Nat) (cs : List Value) (t : TypeId) (hk : σ[k]? = some (b, .cells cs.toArray t (0, 0))) : W.rangeAt b 0 cs := fun j v hj => by
 rw [cell_of_row _ _ _ _ _ _ (hM.own k b _ hk).1, Nat.zero_add]
 simpa using hj
structure RowAt (V : View) (a : Option Addr) (xs : List Value) : Prop where
 at_ : xs ≠ [] → ∃ b, a = some ⟨b, 0, none⟩ ∧ V.range b 0 xs
theorem RowAt.le {U V : View} (h : View.le U V) {a : Option Addr} {xs : List Value} (hr : RowAt U a xs) : RowAt V a xs := ⟨fun hne => by obtain ⟨b, e, hr⟩ := hr.at_ hne; exact ⟨b, e, View.range_le h hr⟩⟩
section
variable {P : Program} {n : Nat} {W0 : Cx} {Q : XQ} {s : Slots} {U : View} {σ : Blks} {ops : Array Oper} {l : List Oper} {o : Oper}
theorem Rw.form {r : Rw} {z m : Nat} {xs : List Value} (h : r.ok z m xs) : ∃ a c, r.V m = .slice a m c := by
 cases r with
 | nil => obtain ⟨rfl, _⟩ := h; exact ⟨none, 0, rfl⟩
 | row b cap junk => exact ⟨_, _, rfl⟩
theorem mem_fz {W : World} {r : Rw} {xs : List Value} {σ1 : Blks} {e : TypeId} (hM : Mem W0 U (σ1 ++ r.B e xs) W) : Mem W0 (U.or (r.W xs)) σ1 W ∧ ∀ b cap junk, r = .row b cap junk → (U.or (r.W xs)).range b 0 xs := by
 have hM0 : Mem W0 U (σ1 ++ (r.B e xs ++ [])) W := by rw [List.append_nil]; exact hM
 have hf := Mem.freeze hM0
 rw [List.append_nil] at hf
 refine ⟨hf, fun b cap junk hr j v hj => ?_⟩
 subst hr
 have hn : U ⟨b, 0 + j, none⟩ = none := by
  have h3 := (hM0.own (σ1.length + 0) b (.cells (xs ++ junk).toArray e (0, 0)) (getElem?_mid σ1 _ [] 0 _ rfl)).2.2 ⟨b, 0 + j, none⟩ rfl
  exact h3
 refine View.or_r ?_ hn
 show (if b = b ∧ none = none then xs[0 + j]? else none) = some v
 rw [if_pos ⟨rfl, rfl⟩, Nat.zero_add]
 exact hj
theorem sx_fz (t : Nat) (r : Rw) (xs : List Value) (z m : Nat) (σ1 : Blks) (e : TypeId) (hσ : σ = σ1 ++ r.B e xs) (hok : r.ok z m xs) (hl : look s t = some (r.V m))
  (h : ∀ a c V, View.le U V → RowAt V a xs → r.V m = .slice a m c → SXL P n W0 Q ops l ((t, .slice a m c) :: s) V σ1) : SXL P n W0 Q ops l s U σ := by
 subst hσ
 refine ⟨fun A W ha hM => ?_⟩
 obtain ⟨h1, h2⟩ := mem_fz hM
 obtain ⟨a, c, hv⟩ := Rw.form hok
 refine (h a c (U.or (r.W xs)) (View.le_or _ _) ⟨fun hne => ?_⟩ hv).go A W ⟨ha.size, ha.defers, fun u x hx => ?_⟩ h1
 ·
  cases r with
  | nil => exact absurd hok.2 hne
  | row b cap junk =>
   simp only [Rw.V, Value.slice.injEq, true_and] at hv
   exact ⟨b, hv.1.symm, h2 b cap junk rfl⟩
 ·
  simp only [look] at hx
  split at hx
  ·
   next hb =>
   have := Nat.eq_of_beq_eq_true hb
   subst this
   rw [ha.slots t _ hl, hv]; exact hx
  · exact ha.slots u x hx
theorem run_lenRw (r : Rw) (z m : Nat) (xs : List Value) (hok : r.ok z m xs) (x : Operand) (t e : TypeId) (ho : o.op = .call { callee := .builtin .len, args := #[x], argTypes := #[t] }) (hx : evS s x = some (r.V m)) (hu : P.underlying t = some (.slice e)) (W : World) : (execOp (ev s) o).run P W = .ok (.value (.int .i64 (m : Int))) W := by
 obtain ⟨a, c, hv⟩ := Rw.form hok
 unfold execOp
 simp only [ho, resolve, invoke, builtin, Sem.run_bind, Sem.run_pure, Result.andThen_ok, List.map_toArray, List.map_cons, List.map_nil, ev_of hx, hv, Builtin.len_]
 simp [run_underlying hu W, goInt]
end
theorem TsAt.open {U : View} {a : Option Addr} {l : List Itm.Tr} (h : TsAt U a l) (hne : l ≠ []) : ∃ (b f : Nat) (L : List (Itm.Tr × List Value)), a = some ⟨b, f, none⟩ ∧ L.map Prod.fst = l ∧ AllTV U L ∧ U.range b f (L.flatMap Prod.snd) := by
 obtain ⟨b, f, cs0, ha, _, _⟩ := h.at_ 0 (l[0]'(by cases l <;> simp_all)) (List.getElem?_eq_getElem _)
 refine ⟨b, f, ?_⟩
 subst ha
 have key : ∀ (l : List Itm.Tr) (f' : Nat), (∀ i x, l[i]? = some x → ∃ cs, U.range b (f' + i * 5) cs ∧ TV U x cs) → ∃ L : List (Itm.Tr × List Value), L.map Prod.fst = l ∧ AllTV U L ∧ U.range b f' (L.flatMap Prod.snd) := by
  intro l
  induction l with
  | nil => intro f' _; exact ⟨[], rfl, trivial, fun j v hj => by simp at hj⟩
  | cons t l ih =>
   intro f' hl
   obtain ⟨cs, h1, h2⟩ := hl 0 t rfl
   obtain ⟨L, k1, k2, k3⟩ := ih (f' + 5) fun i x hx => by
    obtain ⟨cs, q1, q2⟩ := hl (i + 1) x (by simpa using hx)
    exact ⟨cs, by rw [show f' + 5 + i * 5 = f' + (i + 1) * 5 by omega]; exact q1, q2⟩
   refine ⟨(t, cs) :: L, by simp [k1], ⟨h2, k2⟩, fun j v hj => ?_⟩
   change (cs ++ L.flatMap Prod.snd)[j]? = some v at hj
   by_cases hj5 : j < cs.length
   ·
    rw [List.getElem?_append_left hj5] at hj
    have := h1 j v hj
    simpa using this
   ·
    rw [List.getElem?_append_right (by omega)] at hj
    have := k3 (j - cs.length) v hj
    have h5 := h2.len5
    rw [show f' + j = f' + 5 + (j - cs.length) by omega]
    exact this
 obtain ⟨L, k1, k2, k3⟩ := key l f fun i x hx => by
  obtain ⟨b', f', cs, he, q1, q2⟩ := h.at_ i x hx
  simp only [Option.some.injEq, Addr.mk.injEq, and_true] at he
  obtain ⟨rfl, rfl⟩ := he
  exact ⟨cs, q1, q2⟩
 exact ⟨L, rfl, k1, k2, k3⟩
theorem AllTV.flat_len {V : View} : ∀ {L : List (Itm.Tr × List Value)}, AllTV V L → (L.flatMap Prod.snd).length = L.length * 5
 | [], _ => rfl
 | p :: r, ⟨h1, h2⟩ => by rw [List.flatMap_cons, List.length_append, AllTV.flat_len h2, h1.len5, List.length_cons]; omega
theorem TV.one {V : View} {t : Itm.Tr} {cs : List Value} (h : TV V t cs) : ∀ u ∈ cs, u.oneCell' = true := by
 obtain ⟨a, c, rfl, _⟩ := h.form
 intro u hu
 simp only [List.mem_cons, List.mem_nil_iff, or_false] at hu
 rcases hu with rfl | rfl | rfl | rfl | rfl <;> rfl
theorem AllTV.one {V : View} : ∀ {L : List (Itm.Tr × List Value)}, AllTV V L → ∀ u ∈ L.flatMap Prod.snd, u.oneCell' = true
 | [], _, u, hu => by simp at hu
 | p :: r, ⟨h1, h2⟩, u, hu => by
  rw [List.flatMap_cons, List.mem_append] at hu
  rcases hu with hu | hu
  · exact h1.one u hu
  · exact AllTV.one h2 u hu
theorem AllTV.le {U V : View} (h : View.le U V) : ∀ {L : List (Itm.Tr × List Value)}, AllTV U L → AllTV V L
 | [], _ => trivial
 | _ :: _, ⟨h1, h2⟩ => ⟨h1.le h, h2.le h⟩
theorem AllTV.app {V : View} : ∀ {L M : List (Itm.Tr × List Value)}, AllTV V L → AllTV V M → AllTV V (L ++ M)
 | [], _, _, h => h
 | _ :: _, _, ⟨h1, h2⟩, h => ⟨h1, h2.app h⟩
theorem BksAt.flat {U : View} {b f : Nat} {l : List Bk} (h : ∀ i x, l[i]? = some x → U.range b (f + i * 5) x.cs) : U.range b f (l.flatMap Bk.cs) := by
 induction l generalizing f with
 | nil => intro j v hj; simp at hj
 | cons x l ih =>
  intro j v hj
  rw [List.flatMap_cons] at hj
  have h5 : x.cs.length = 5 := rfl
  by_cases hj5 : j < 5
  ·
   rw [List.getElem?_append_left (by omega)] at hj
   have := h 0 x rfl j v hj
   simpa using this
  ·
   rw [List.getElem?_append_right (by omega)] at hj
   have := ih (f := f + 5) (fun i y hy => by rw [show f + 5 + i * 5 = f + (i + 1) * 5 by omega]; exact h (i + 1) y (by simpa using hy)) (j - 5) v (by rw [h5] at hj; exact hj)
   rw [show f + j = f + 5 + (j - 5) by omega]
   exact this
theorem BksAt.of {U : View} {b f : Nat} {l : List Bk} (h : U.range b f (l.flatMap Bk.cs)) (hok : ∀ x ∈ l, x.ok) (hlen : l.length ≤ R47) : BksAt U (some ⟨b, f, none⟩) l := by
 refine ⟨fun i x hx => ⟨b, f, rfl, ?_⟩, hok, hlen⟩
 induction l generalizing f i with
 | nil => simp at hx
 | cons y l ih =>
  rw [List.flatMap_cons] at h
  obtain ⟨h1, h2⟩ := range_append h
  cases i with
  | zero => simp only [List.getElem?_cons_zero, Option.some.injEq] at hx; subst hx; simpa using h1
  | succ i =>
   have h5 : y.cs.length = 5 := rfl
   have := ih (f := f + 5) (by rw [h5] at h2; exact h2) (fun z hz => hok z (List.mem_cons_of_mem _ hz)) (by simp at hlen; omega) i (by simpa using hx)
   rw [show f + (i + 1) * 5 = f + 5 + i * 5 by omega]
   exact this
theorem bks_len (l : List Bk) : (l.flatMap Bk.cs).length = l.length * 5 := by
 induction l with
 | nil => rfl
 | cons x l ih => rw [List.flatMap_cons, List.length_append, ih, List.length_cons]; show 5 + _ = _; omega
theorem bks_one (l : List Bk) : ∀ u ∈ l.flatMap Bk.cs, u.oneCell' = true := by
 intro u hu
 obtain ⟨x, _, hx⟩ := List.mem_flatMap.1 hu
 simp only [Bk.cs, List.mem_cons, List.mem_nil_iff, or_false] at hx
 rcases hx with rfl | rfl | rfl | rfl | rfl <;> rfl
end Go.Proofs.YtcdjakemdlinhaaGreatDoor.Sx
namespace Go.Proofs.YtcdjakemdlinhaaGreatDoor.Sx
open Go.ChangeShapes Go.WideShapes Go.ChangeAt Go.RowKit Go.Deep Go.ChangeMaps Go.MapKept
def mEs {α : Type} (key : α → Value) : Nat → List (α × Int) → List MapEntry
 | _, [] => []
 | i, (k, v) :: r => { key := key k, val := .int .i64 v, born := i } :: mEs key (i + 1) r
def mO {α : Type} (key : α → Value) (m : List (α × Int)) : Obj := .map (mEs key 0 m).toArray m.length
def mfind {α : Type} [BEq α] (x : α) : Nat → List (α × Int) → Option (Nat × Value)
 | _, [] => none
 | i, (k, v) :: r => if x == k then some (i, .int .i64 v) else mfind x (i + 1) r
def mput {α : Type} [BEq α] (x : α) (v : Int) : List (α × Int) → List (α × Int)
 | [] => [(x, v)]
 | (k, u) :: r => if x == k then (k, v) :: r else (k, u) :: mput x v r
def mget {α : Type} [BEq α] (x : α) : List (α × Int) → Int
 | [] => 0
 | (k, v) :: r => if x == k then v else mget x r
theorem mEs_len {α : Type} (key : α → Value) : ∀ (i : Nat) (m : List (α × Int)), (mEs key i m).length = m.length
 | _, [] => rfl
 | i, (_, _) :: r => by rw [mEs, List.length_cons, List.length_cons, mEs_len key (i + 1) r]
theorem mfind_none {α : Type} [BEq α] (key : α → Value) (x : α) (v : Int) : ∀ (i : Nat) (m : List (α × Int)), mfind x i m = none → mEs key i (mput x v m) = mEs key i m ++ [{ key := key x, val := .int .i64 v, born := i + m.length }] ∧ (mput x v m).length = m.length + 1 ∧ mget x m = 0
 | i, [], _ => ⟨rfl, rfl, rfl⟩
 | i, (k, u) :: r, h => by
  unfold mfind at h
  split at h
  · cases h
  ·
   next hne =>
   obtain ⟨h1, h2, h3⟩ := mfind_none key x v (i + 1) r h
   refine ⟨?_, ?_, ?_⟩
   ·
    rw [mput, if_neg hne, mEs, h1, mEs, List.length_cons, show i + (r.length + 1) = i + 1 + r.length by omega]
    rfl
   · rw [mput, if_neg hne, List.length_cons, h2, List.length_cons]
   · rw [mget, if_neg hne]; exact h3
theorem mfind_ge {α : Type} [BEq α] (x : α) : ∀ (i : Nat) (m : List (α × Int)) (j : Nat) (y : Value), mfind x i m = some (j, y) → i ≤ j
 | i, [], _, _, h => by cases h
 | i, (k, u) :: r, j, y, h => by
  unfold mfind at h
  split at h
  · cases h; exact Nat.le_refl _
  ·
   have := mfind_ge x (i + 1) r j y h
   omega
theorem mfind_some {α : Type} [BEq α] [LawfulBEq α] (key : α → Value) (x : α) (v : Int) : ∀ (i : Nat) (m : List (α × Int)) (j : Nat) (y : Value), mfind x i m = some (j, y) →
  mEs key i (mput x v m) = (mEs key i m).modify (j - i) (fun e => { e with key := key x, val := .int .i64 v }) ∧ (mput x v m).length = m.length ∧ y = .int .i64 (mget x m) ∧ ∃ e, (mEs key i m)[j - i]? = some e ∧ e.key = key x
 | i, [], _, _, h => by cases h
 | i, (k, u) :: r, j, y, h => by
  unfold mfind at h
  split at h
  ·
   next he =>
   simp only [Option.some.injEq, Prod.mk.injEq] at h
   obtain ⟨rfl, rfl⟩ := h
   have hxk := eq_of_beq he
   refine ⟨?_, ?_, ?_, ?_⟩
   ·
    rw [mput, if_pos he, Nat.sub_self, mEs, mEs, hxk]
    rfl
   · rw [mput, if_pos he]; rfl
   · rw [mget, if_pos he]
   · refine ⟨_, by rw [Nat.sub_self, mEs]; rfl, by rw [hxk]⟩
  ·
   next hne =>
   have hge := mfind_ge x _ r j y h
   obtain ⟨h1, h2, h3, e, h4, h5⟩ := mfind_some key x v (i + 1) r j y h
   have hji : j - i = (j - (i + 1)) + 1 := by omega
   refine ⟨?_, ?_, ?_, e, ?_, h5⟩
   ·
    rw [mput, if_neg hne, mEs, h1, mEs, hji]
    rfl
   · rw [mput, if_neg hne, List.length_cons, h2, List.length_cons]
   · rw [mget, if_neg hne]; exact h3
   · rw [mEs, hji]; exact h4
structure MapKey (P : Program) (T : TypeId) {α : Type} [BEq α] (key : α → Value) : Prop where
 law : ∃ kt et, P.underlying T = some (.map kt et) ∧ (∀ w : World, (zeroValue et).run P w = .ok (.int .i64 0) w) ∧ (∀ (w : World) (b : Bool) (x : α), (Instr.checkKey b 10000 kt (key x)).run P w = .ok () w) ∧
  (∀ (w : World) (x : α) (m : List (α × Int)), (Instr.findKey kt (key x) (mEs key 0 m)).run P w = .ok (mfind x 0 m) w) ∧ (∀ (w : World) (x : α), (Instr.keyThatStays (key x) (key x)).run P w = .ok (key x) w)
theorem findNow_int (x : Int) : ∀ (i : Nat) (m : List (Int × Int)), Instr.findNow (.int .i64) (.int .i64 x) (mEs (fun z => .int .i64 z) i m) i = some (mfind x i m)
 | _, [] => rfl
 | i, (k, v) :: r => by
  rw [mEs, Instr.findNow, mfind]
  simp only [Instr.sameNow, if_true]
  cases hb : x == k with
  | true => simp
  | false => simp only [Bool.false_eq_true, if_false]; exact findNow_int x (i + 1) r
abbrev intKey : Int → Value := fun z => .int .i64 z
theorem mapKey_int {P : Program} {T kt et : TypeId} (hT : P.underlying T = some (.map kt et)) (hk : P.underlying kt = some (.int .i64)) (hz : ∀ w : World, (zeroValue et).run P w = .ok (.int .i64 0) w) : MapKey P T intKey :=
 ⟨kt, et, hT, hz, fun w b x => Go.MapKept.run_checkKey hk (by simp [IsKey]) b 9999, fun w x m => Go.MapKept.run_findKey hk (findNow_int x 0 m), fun w x => Go.MapKept.run_keyThatStays (d := .int .i64) (by simp [IsKey])⟩
section
variable {P : Program} {T : TypeId} {α : Type} [BEq α] [LawfulBEq α] {key : α → Value} {w : World} {b : Nat} {m : List (α × Int)}
theorem mO_look (K : MapKey P T key) (hb : w.heap[b]? = some (mO key m)) (x : α) : (Instr.lookup T (.map (some b)) (key x) false).run P w = .ok (.int .i64 (mget x m)) w := by
 obtain ⟨kt, et, hT, hz, hc, hf, hs⟩ := K.law
 unfold mO at hb
 have hf := hf w x m
 cases hx : mfind x 0 m with
 | none =>
  rw [hx] at hf
  obtain ⟨_, _, h3⟩ := mfind_none key x 0 0 m hx
  simp [Instr.lookup, run_underlying hT, Go.MapKept.run_getObj_map hb, hc, hf, hz, Result.andThen, h3]
 | some p =>
  obtain ⟨j, y⟩ := p
  rw [hx] at hf
  obtain ⟨_, _, h3, _⟩ := mfind_some key x 0 0 m j y hx
  simp [Instr.lookup, run_underlying hT, Go.MapKept.run_getObj_map hb, hc, hf, hz, Result.andThen, h3]
theorem mO_put (K : MapKey P T key) (hb : w.heap[b]? = some (mO key m)) (x : α) (v : Int) : (Instr.mapUpdate T (.map (some b)) (key x) (.int .i64 v)).run P w = .ok () (setBlock w b (mO key (mput x v m))) := by
 obtain ⟨kt, et, hT, hz, hc, hf, hs⟩ := K.law
 unfold mO at hb
 have hf := hf w x m
 cases hx : mfind x 0 m with
 | none =>
  rw [hx] at hf
  obtain ⟨h1, h2, h3⟩ := mfind_none key x v 0 m hx
  simp [Instr.mapUpdate, run_underlying hT, Go.MapKept.run_getObj_map hb, hc, hf, Go.MapKept.run_setObj_map _ hb, Result.andThen, setBlock, mO, h1, h2]
 | some p =>
  obtain ⟨j, y⟩ := p
  rw [hx] at hf
  obtain ⟨h1, h2, h3, e, h4, h5⟩ := mfind_some key x v 0 m j y hx
  rw [Nat.sub_zero] at h4 h1
  have hks := hs w x
  simp [Instr.mapUpdate, run_underlying hT, Go.MapKept.run_getObj_map hb, hc, hf, h4, h5, hks, Go.MapKept.run_setObj_map _ hb, Result.andThen, setBlock, mO, h1, h2]
end
section
variable {P : Program} {n : Nat} {W0 : Cx} {Q : XQ} {s : Slots} {U : View} {σ : Blks} {ops : Array Oper} {l : List Oper} {o : Oper} {T : TypeId} {α : Type} [BEq α] [LawfulBEq α] {key : α → Value}
theorem sx_mget (K : MapKey P T key) (k b : Nat) (m : List (α × Int)) (x : α) (xm xi : Operand) (ho : o.op = .lookup T xm xi false) (hm : evS s xm = some (.map (some b))) (hx : evS s xi = some (key x)) (hk : σ[k]? = some (b, mO key m))
  (hd : dstOk n o = true) (hw : wantS ops s o = some true) (h : SXL P n W0 Q ops l (putS o (.int .i64 (mget x m)) s) U σ) : SXL P n W0 Q ops (o :: l) s U σ := by
 refine sx_op hd hw fun a W ha hM K' hK => ?_
 have hb := (hM.own k b _ hk).1
 unfold Oper.wp execOp
 simp only [ho, ev_rep ha hm, ev_rep ha hx, mO_look K hb x, Sem.run_bind, Sem.run_pure, Result.andThen_ok]
 exact hK _ _ _ _ _ h (putS_rep ha hd) hM
theorem sx_mput (K : MapKey P T key) (k b : Nat) (m : List (α × Int)) (x : α) (v : Int) (xm xi xv : Operand) (ho : o.op = .mapUpdate T xm xi xv) (hm : evS s xm = some (.map (some b))) (hx : evS s xi = some (key x)) (hv : evS s xv = some (.int .i64 v)) (hk : σ[k]? = some (b, mO key m))
  (hd : dstOk n o = true) (hw : wantS ops s o = some true) (h : SXL P n W0 Q ops l (putS o undef s) U (σ.set k (b, mO key (mput x v m)))) : SXL P n W0 Q ops (o :: l) s U σ := by
 refine sx_op hd hw fun a W ha hM K' hK => ?_
 have hb := (hM.own k b _ hk).1
 unfold Oper.wp execOp
 simp only [ho, ev_rep ha hm, ev_rep ha hx, ev_rep ha hv, mO_put K hb x v, Sem.run_bind, Sem.run_pure, Result.andThen_ok]
 have hlt := (Array.getElem?_eq_some_iff.1 hb).1
 exact hK _ _ _ _ _ h (putS_rep ha hd) (hM.set k b _ _ hk rfl rfl rfl (by simp [setBlock]) (heap_setBlock_same hb _) (fun i hi => heap_setBlock_other hb _ hi))
end
theorem mget_put {α : Type} [BEq α] [LawfulBEq α] (x y : α) (v : Int) : ∀ m : List (α × Int), mget x (mput y v m) = if x == y then v else mget x m
 | [] => rfl
 | (k, u) :: r => by
  rw [mput]
  cases hk : y == k with
  | true =>
   simp only [if_true, mget]
   rw [eq_of_beq hk]
   cases x == k <;> simp
  | false =>
   simp only [Bool.false_eq_true, if_false, mget, mget_put x y v r]
   cases hx : x == y with
   | true => rw [eq_of_beq hx, hk]; simp
   | false => simp
end Go.Proofs.YtcdjakemdlinhaaGreatDoor.Sx
namespace Go.Proofs.YtcdjakemdlinhaaGreatDoor
open Go.ChangeShapes Go.WideShapes Go.ChangeAt Go.RowKit Go.Deep
section
variable {P : Program} {ops : Array Oper} {Q : Exit → Act → World → Prop} {md : Region.Mode}
theorem wpAny_inv (m : Nat) {fuel r : Nat} (ds : List Tmp) (Inv : (Nat → Bool) → (Nat → Value) → World → Prop) {a0 : Act} {w0 : World}
  (hlen : ds.length = m) (hds : dstsOk ops ds = true) (hnd : nodupB ds = true) (hms : decide (m ≤ ops.size) = true) (hedge : edgesOk md ops m = true) (htail : tailOk md ops m r = true)
  (hS : ∀ u, Inv (fun _ => false) u w0)
  (steps : ∀ i, i < m → ∀ (L : Nat → Bool) (u : Nat → Value) (w : World), Inv L u w → L i = false → (∀ j, waitsOn md ops i j = true → L j = true ∧ j < m) → (∀ k j, L k = true → waitsOn md ops k j = true → L j = true) →
   ∀ K : Act → World → Prop, (∀ v w', Inv (fun j => if j = i then true else L j) (fun j => if j = i then v else u j) w' → K ((fillL ds 0 u a0).put ((ops[i]?).bind (·.dst)) v) w') → wpOp P ops Q i K (fillL ds 0 u a0) w)
  (fin : ∀ L u w, Inv L u w → (∀ i, i < m → L i = true) → wpAny P md ops Q fuel (firstM m ops.size) (fillL ds 0 u a0) w) :
  wpAny P md ops Q (m + fuel) (Array.replicate ops.size false) a0 w0 := by
 have hms' : m ≤ ops.size := by simpa using hms
 have main : ∀ (rem : List Nat) (listed : Array Bool) (L : Nat → Bool) (u : Nat → Value) (w : World), rem.Nodup → (∀ i, i ∈ rem ↔ i < m ∧ listed.getD i false = false) → listed.size = ops.size → (∀ i, m ≤ i → listed.getD i false = false) → (∀ i, listed.getD i false = true → ∀ j, waitsOn md ops i j = true → listed.getD j false = true) →
   (∀ i, listed.getD i false = L i) → Inv L u w → wpAny P md ops Q (rem.length + fuel) listed (fillL ds 0 u a0) w := by
  intro rem
  generalize hk : rem.length = k
  induction k generalizing rem with
  | zero =>
   intro listed L u w hn hrem hsz hge hcl hL hI
   obtain rfl := List.length_eq_zero_iff.1 hk
   have hall : ∀ i, i < m → listed.getD i false = true := fun i hi => by
    cases h : listed.getD i false with
    | true => rfl
    | false => have := (hrem i).2 ⟨hi, h⟩; cases this
   have hl : listed = firstM m ops.size := by
    apply Array.ext
    · simp [firstM, hsz]
    ·
     intro i h1 h2
     have e : listed.getD i false = listed[i] := by simp [Array.getD, h1]
     simp only [firstM, List.getElem_toArray, List.getElem_map, List.getElem_range]
     rw [← e]
     by_cases hi : i < m
     · rw [hall i hi, decide_eq_true hi]
     · rw [hge i (by omega), decide_eq_false hi]
   have hall' : ∀ i, i < m → listed.getD i false = true := hall
   have hl0 : ∀ i, listed.getD i false = listed.getD i false := fun _ => rfl
   rw [hl, Nat.zero_add]
   exact fin L u w hI fun i hi => by rw [← hL i, ← hl0 i]; exact hall' i hi
  | succ k ih =>
   intro listed L u w hn hrem hsz hge hcl hL hI
   have hne : rem ≠ [] := by intro h; rw [h] at hk; cases hk
   have hgd : ∀ i, i < ops.size → listed.getD i true = listed.getD i false := fun i hi => by simp [Array.getD, hsz, hi]
   have hready : ∀ i ∈ Region.ready md ops listed, i < m ∧ i ∈ rem ∧ ∀ j, waitsOn md ops i j = true → listed.getD j false = true := by
    intro i hi
    obtain ⟨h1, o, ho, hed⟩ := mem_ready.1 hi
    have his : i < ops.size := (Array.getElem?_eq_some_iff.1 ho).1
    have hwt : ∀ j, waitsOn md ops i j = true → listed.getD j false = true := by
     intro j hj
     simp only [waitsOn, ho, Option.map_some, Option.getD_some, List.any_eq_true, Bool.and_eq_true, beq_iff_eq] at hj
     obtain ⟨e, he, hb, hon⟩ := hj
     have := hed e (by simpa using he) hb
     rw [hon] at this
     exact this
    have him : i < m := by
     by_cases h : i < m
     · exact h
     ·
      exfalso
      unfold tailOk at htail
      rw [List.all_eq_true] at htail
      have h2 := htail i (List.mem_range.2 his)
      rw [decide_eq_false h, Bool.false_or, List.all_eq_true] at h2
      obtain ⟨j, hj⟩ := List.exists_mem_of_ne_nil rem hne
      have h3 := (hrem j).1 hj
      have h4 := h2 j (List.mem_range.2 h3.1)
      rw [List.contains_eq_mem, decide_eq_true_eq] at h4
      have := downs_closed (p := fun k => listed.getD k false = true) hcl r _ (fun k hk => hwt k (by
       rw [List.mem_filter] at hk
       exact hk.2)) j h4
      simp only [h3.2] at this
      cases this
    exact ⟨him, (hrem i).2 ⟨him, by rw [← hgd i his]; exact h1⟩, hwt⟩
   rw [show k + 1 + fuel = k + fuel + 1 by omega]
   refine ⟨fun hnil => ?_, fun i hi => ?_⟩
   ·
    exfalso
    obtain ⟨i, hi, hmin⟩ := exists_least (List.exists_mem_of_ne_nil rem hne)
    have him := (hrem i).1 hi
    have : i ∈ Region.ready md ops listed := by
     refine mem_ready.2 ⟨by rw [hgd i (by omega)]; exact him.2, ops[i]'(by omega), Array.getElem?_eq_getElem (by omega), fun e he hb => ?_⟩
     unfold edgesOk at hedge
     rw [List.all_eq_true] at hedge
     have h2 := hedge i (List.mem_range.2 him.1)
     rw [Array.getElem?_eq_getElem (show i < ops.size by omega)] at h2
     simp only [Option.map_some, Option.getD_some, List.all_eq_true, Bool.or_eq_true, Bool.not_eq_true', decide_eq_true_eq] at h2
     have h3 := h2 e (by simpa using he)
     have h4 : e.on < i := by
      rcases h3 with h3 | h3
      · rw [hb] at h3; cases h3
      · exact h3
     cases h5 : listed.getD e.on false with
     | true => rfl
     | false => exact absurd ((hrem e.on).2 ⟨by omega, h5⟩) (hmin e.on h4)
    rw [hnil] at this
    cases this
   ·
    obtain ⟨him, hir, hwt⟩ := hready i hi
    refine steps i him L u w hI (by rw [← hL]; exact ((hrem i).1 hir).2) (fun j hj => ⟨by rw [← hL]; exact hwt j hj, ?_⟩) (fun k j hk hj => by rw [← hL]; exact hcl k (by rw [hL]; exact hk) j hj) _ fun v w' hI' => ?_
    ·
     have hl := hwt j hj
     by_cases h : j < m
     · exact h
     · rw [hge j (by omega)] at hl; cases hl
    ·
     have hd : (ops[i]?).bind (·.dst) = ds[i]? := by
      unfold dstsOk at hds
      rw [List.all_eq_true] at hds
      simpa using hds i (List.mem_range.2 (by omega))
     have hdi : ds[i]? = some (ds[i]'(by omega)) := List.getElem?_eq_getElem (by omega)
     rw [hd, hdi, fillL_set ds 0 u a0 i _ v (nodup_of hnd) hdi, Nat.zero_add]
     have hset : ∀ j, (listed.setIfInBounds i true).getD j false = if j = i then true else listed.getD j false := by
      intro j
      simp only [Array.getD_eq_getD_getElem?, Array.getElem?_setIfInBounds]
      by_cases hj : j = i
      ·
       subst hj
       have hjs : j < listed.size := by omega
       simp [hjs]
      · rw [if_neg (fun h => hj h.symm), if_neg hj]
     refine ih (rem.erase i) (by rw [List.length_erase_of_mem hir, hk]; rfl) _ _ _ w' (hn.erase i) (fun j => ?_) (by simp [hsz]) (fun j hj => ?_) (fun k hk j hj => ?_) (fun j => by rw [hset j, hL j]) hI'
     ·
      rw [hn.mem_erase_iff, hrem j, hset j]
      by_cases hj : j = i
      · subst hj; simp
      · simp [hj]
     ·
      rw [hset j, if_neg (by omega)]
      exact hge j hj
     ·
      rw [hset j]
      by_cases hji : j = i
      · rw [if_pos hji]
      ·
       rw [if_neg hji]
       by_cases hki : k = i
       · subst hki; exact hwt j hj
       ·
        rw [hset k, if_neg hki] at hk
        exact hcl k hk j hj
 have hrp : ∀ i, (Array.replicate ops.size false).getD i false = false := fun i => by
  simp only [Array.getD_eq_getD_getElem?, Array.getElem?_replicate]
  split <;> rfl
 have h := main (List.range m) (Array.replicate ops.size false) (fun _ => false) (fun j => a0.tmps.getD (ds.getD j 0) undef) w0 List.nodup_range (fun i => by
   rw [List.mem_range]
   simp [hrp i]) (by simp) (fun i _ => hrp i) (fun i h => by rw [hrp i] at h; cases h) hrp (hS _)
 rw [fillL_self ds 0 _ a0 (fun j hj => by rw [Nat.zero_add]), List.length_range] at h
 exact h
theorem wp_region_inv {id : Nat} (m fuel r : Nat) (ds : List Tmp) (Inv : (Nat → Bool) → (Nat → Value) → World → Prop) {a0 : Act} {w : World}
  (hm : P.follows .mixedOrders = true) (hsz : ops.size = m + fuel)
  (hlen : ds.length = m) (hds : dstsOk ops ds = true) (hnd : nodupB ds = true) (hedge : edgesOk .any ops m = true) (htail : tailOk .any ops m r = true)
  (hS : ∀ u, Inv (fun _ => false) u w.drew)
  (steps : ∀ i, i < m → ∀ (L : Nat → Bool) (u : Nat → Value) (w : World), Inv L u w → L i = false → (∀ j, waitsOn .any ops i j = true → L j = true ∧ j < m) → (∀ k j, L k = true → waitsOn .any ops k j = true → L j = true) →
   ∀ K : Act → World → Prop, (∀ v w', Inv (fun j => if j = i then true else L j) (fun j => if j = i then v else u j) w' → K ((fillL ds 0 u a0).put ((ops[i]?).bind (·.dst)) v) w') → wpOp P ops Q i K (fillL ds 0 u a0) w)
  (fin : ∀ L u w, Inv L u w → (∀ i, i < m → L i = true) → wpAny P .any ops Q fuel (firstM m ops.size) (fillL ds 0 u a0) w) : (Code.region id ops true).wp P Q a0 w := by
 refine wp_region_any hm ?_
 have h := wpAny_inv (md := .any) m ds Inv (w0 := w.drew) hlen hds hnd (decide_eq_true (by omega)) hedge htail hS steps fin
 rw [← hsz] at h
 exact h
end
end Go.Proofs.YtcdjakemdlinhaaGreatDoor
namespace Go.Proofs.YtcdjakemdlinhaaGreatDoor.Sx
open Go.ChangeShapes Go.WideShapes Go.ChangeAt Go.RowKit Go.Deep
def RetM (W0 : Cx) (U : View) (σF : Blks) (Φ : Value → View → Blks → Prop) : Ending → World → Prop := fun e W' => ∃ v V σ', e = .returned v ∧ View.le U V ∧ Mem W0 V (σ' ++ σF) W' ∧ Φ v V σ'
theorem sx_enterM {P : Program} {f : FuncId} {fn : Func} {c : Code} {args : List Value} {W : World} {R : Ending → World → Prop} {W0 : Cx} {σ : Blks} (n : Nat) (U : View) (hf : P.funcs[f]? = some fn) (hb : fn.body = some c) (hn : fn.ntmps = n) (hle : Nat.ble args.length n = true) (hM : Mem W0 U σ W)
  (h : SXC P n W0 (retX P n W0 fn R) c (argS 0 args) U σ) : Calls P f args.toArray W R := by
 have hle' : args.length ≤ n := Nat.le_of_ble_eq_true hle
 refine calls_of_wp hf hb (wp_mono (h.go _ W ⟨?_, rfl, fun t v ht => ?_⟩ hM) ?_)
 · simp [hn]; omega
 ·
  obtain ⟨_, h2⟩ := argS_look args 0 t v ht
  have hlt : t < args.length := (List.getElem?_eq_some_iff.1 h2).1
  simp only [Nat.sub_zero] at h2
  rw [Array.getElem?_append_left (by simpa using hlt)]
  simpa using h2
 ·
  rintro e a W' ⟨s, U', σ, ha, hM, hq⟩
  cases e with
  | normal => obtain ⟨v, h1, h2⟩ := hq a W' ha hM; exact ⟨ha.defers, v, h1, h2⟩
  | ret => obtain ⟨v, h1, h2⟩ := hq a W' ha hM; exact ⟨ha.defers, v, h1, h2⟩
  | _ => exact hq.elim
section
variable {P : Program} {n : Nat} {W0 : Cx} {Q : XQ} {s : Slots} {U : View} {σ : Blks} {ops : Array Oper} {l : List Oper} {o : Oper}
theorem sx_callM (f : FuncId) (args : Array Value) (own σF : Blks) (Φ : Value → View → Blks → Prop) (hσ : σ.Perm (own ++ σF)) (he : enters P s o = some (f, args)) (hc : ∀ W, Mem W0 U (own ++ σF) W → Calls P f args W (RetM W0 U σF Φ)) (hd : dstOk n o = true) (hw : wantS ops s o = some true)
  (h : ∀ v V σ', View.le U V → Φ v V σ' → SXL P n W0 Q ops l (putS o v s) V (σ' ++ σF)) : SXL P n W0 Q ops (o :: l) s U σ :=
 sx_callX f args he hd hw fun W hM => (hc W (hM.perm hσ)).mono fun _ W' ⟨v, V, σ', he, hl, hM', hΦ⟩ => ⟨v, _, V, σ' ++ σF, he, hM', rfl, h v V σ' hl hΦ⟩
theorem sx_permL {σ' : Blks} (hσ : σ.Perm σ') (h : SXL P n W0 Q ops l s U σ') : SXL P n W0 Q ops l s U σ := ⟨fun a W ha hM => h.go a W ha (hM.perm hσ)⟩
end
def sqAt (vs : List Sq) (j : Nat) (v : Value) (V : View) : Prop := match vs[j]? with
 | some (.val w) => v = w
 | some (.mem Φ) => Φ v V
 | none => False
theorem sqAt.phi {vs : List Sq} {j : Nat} {v : Value} {V : View} (h : sqAt vs j v V) : PhiAt vs j v V := by
 unfold sqAt at h
 unfold PhiAt
 split at h
 · next e => rw [e]; trivial
 · next e => rw [e]; exact h
 · exact h.elim
theorem sqAt.le {vs : List Sq} (hmono : ∀ q ∈ vs, sqMono q) {j : Nat} {v : Value} {V V' : View} (hl : View.le V V') (h : sqAt vs j v V) : sqAt vs j v V' := by
 unfold sqAt at h ⊢
 split at h
 · exact h
 · next Φ e => exact hmono _ (List.mem_of_getElem? e) v V V' hl h
 · exact h
theorem sqAt.isQ {vs : List Sq} {j : Nat} {v : Value} {V U : View} {W0 : Cx} {σ : Blks} {W : World} (hM : Mem W0 V σ W) (hl : View.le U V) (h : sqAt vs j v V) : IsQ W0 U σ vs j v W := by
 unfold sqAt at h
 split at h
 · next w e => exact ⟨_, e, h⟩
 · next Φ e => exact ⟨_, e, V, hl, hM, h⟩
 · exact h.elim
theorem IsQ.at {vs : List Sq} {j : Nat} {v : Value} {U : View} {W0 : Cx} {σ : Blks} {W : World} (h : IsQ W0 U σ vs j v W) (hM : Mem W0 U σ W) : ∃ V, View.le U V ∧ Mem W0 V σ W ∧ sqAt vs j v V := by
 obtain ⟨q, hq, hs⟩ := h
 cases q with
 | val w => exact ⟨U, View.le_refl _, hM, by unfold sqAt; rw [hq]; exact hs⟩
 | mem Φ =>
  obtain ⟨V, h1, h2, h3⟩ := hs
  exact ⟨V, h1, h2, by unfold sqAt; rw [hq]; exact h3⟩
structure Taken where
 j : Nat
 i : Nat
 Ω : Value → Blks → Prop
section
variable {P : Program} {n : Nat} {W0 : Cx} {s : Slots} {U : View} {σ : Blks} {ops : Array Oper} {ds : List Nat} {vs : List Sq}
theorem rep_fillC {a0 : Act} {u : Nat → Value} {V : View} (i : Nat) (ha : RepA n s a0) (hn : ds.Nodup) (hd : ∀ d ∈ ds, d < n) (hu : ∀ j, waitsOn .any ops i j = true → sqAt vs j (u j) V ∨ ∃ Φ, vs[j]? = some (.mem Φ)) : RepA n (depQ ops ds vs u i ++ minusS s ds) (fillL ds 0 u a0) := by
 have hg := fun t => fillL_get ds 0 u a0 t hn (by rw [ha.size]; exact hd)
 refine ⟨by rw [(hg 0).2.2.1, ha.size], by rw [(hg 0).2.2.2, ha.defers], fun t v hv => ?_⟩
 rcases look_append _ _ _ _ hv with h | ⟨_, h⟩
 ·
  have hm := look_mem _ _ _ h
  unfold depQ at hm
  obtain ⟨j, hj, he⟩ := List.mem_filterMap.1 hm
  have hjl : j < ds.length := List.mem_range.1 hj
  have hdj : ∀ t', ds.getD j 0 = t' → ds[j]? = some t' := fun t' e => by
   rw [List.getElem?_eq_getElem hjl, ← e]
   simp [List.getD, hjl]
  split at he
  ·
   next x hw hx =>
   simp only [Option.some.injEq, Prod.mk.injEq] at he
   obtain ⟨he1, he2⟩ := he
   rw [(hg t).1 j (hdj t he1), Nat.zero_add]
   rcases hu j hw with hs | ⟨Φ, hs⟩
   ·
    unfold sqAt at hs
    rw [hx] at hs
    simp only at hs
    rw [hs, he2]
   ·
    rw [hx] at hs
    cases hs
  ·
   next x hw hx =>
   simp only [Option.some.injEq, Prod.mk.injEq] at he
   obtain ⟨he1, he2⟩ := he
   rw [(hg t).1 j (hdj t he1), Nat.zero_add, ← he2]
  · cases he
 ·
  obtain ⟨h1, h2⟩ := look_minus _ _ _ _ h
  rw [(hg t).2.1 h1]
  exact ha.slots t v h2
end
section
variable {P : Program} {n : Nat} {W0 : Cx} {s : Slots} {U : View} {σ : Blks}
end
end Go.Proofs.YtcdjakemdlinhaaGreatDoor.Sx
