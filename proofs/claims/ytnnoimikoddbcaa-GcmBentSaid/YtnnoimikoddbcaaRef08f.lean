/-
  The walks of the reference's counter and or.
  Conditions: named at each.
-/
import Derived.Test.YtnnoimikoddbcaaGf15
import Derived.BigRegion
namespace Go.Proofs.Ytnnoimikoddbcaa.Ref08
open Go.ChangeShapes Go.WideShapes Go.ChangeAt Go.RowKit Go.Deep Go.Proofs.Ytnnoimikoddbcaa.Gf
open Go.Proofs.Ytnnoimikoddbcaa.Aes (byteF byteF_lt zeros zeros_length zeros_get)
def cB (p : List UInt8) (v : Nat) : List UInt8 := p ++ [UInt8.ofNat (v / 16777216), UInt8.ofNat (v / 65536 % 256), UInt8.ofNat (v / 256 % 256), UInt8.ofNat (v % 256)]
theorem natL_eq (x : List UInt8) : natL x = x.map UInt8.toNat := by
  apply List.ext_getElem (by simp [natL_length])
  intro i h1 h2
  have hi : i < x.length := by simpa using h2
  simp [natL, tab, byteF, List.getD, hi]
theorem len12 (l : List UInt8) (h : l.length = 12) : ∃ a b c d e f g i j k m n, l = [a, b, c, d, e, f, g, i, j, k, m, n] := by
  match l, h with
  | [a, b, c, d, e, f, g, i, j, k, m, n], _ => exact ⟨a, b, c, d, e, f, g, i, j, k, m, n, rfl⟩
theorem next_cB (p : List UInt8) (v : Nat) (hp : p.length = 12) (hv : v < 4294967296) : next16 (cB p v) = cB p ((v + 1) % 4294967296) := by
  obtain ⟨a, b, c, d, e, f, g, i, j, k, m, n, rfl⟩ := len12 p hp
  have ho : ∀ x : Nat, x < 256 → (UInt8.ofNat x).toNat = x := fun x hx => by rw [UInt8.toNat_ofNat']; exact Nat.mod_eq_of_lt hx
  rw [next16, natL_eq, cB]
  simp only [List.cons_append, List.nil_append, List.map_cons, List.map_nil]
  rw [ho _ (by omega), ho _ (by omega), ho _ (by omega), ho _ (by omega)]
  have hbk : ∀ x : UInt8, UInt8.ofNat x.toNat = x := fun x => by simp
  by_cases h1 : (v % 256 + 1) % 256 = 0
  · by_cases h2 : (v / 256 % 256 + 1) % 256 = 0
    · by_cases h3 : (v / 65536 % 256 + 1) % 256 = 0
      · by_cases h4 : (v / 16777216 + 1) % 256 = 0
        · simp only [nextGo, ↓reduceIte, List.getD, List.getElem?_cons_succ, List.getElem?_cons_zero, Option.getD_some, List.set_cons_succ, List.set_cons_zero, Nat.reduceAdd, h1, h2, h3, h4, List.map_cons, List.map_nil, hbk, cB, List.cons_append, List.nil_append]
          rw [show (v + 1) % 4294967296 = 0 by omega]
        · simp only [nextGo, ↓reduceIte, List.getD, List.getElem?_cons_succ, List.getElem?_cons_zero, Option.getD_some, List.set_cons_succ, List.set_cons_zero, Nat.reduceAdd, h1, h2, h3, h4, List.map_cons, List.map_nil, hbk, cB, List.cons_append, List.nil_append]
          rw [show (v + 1) % 4294967296 / 16777216 = (v / 16777216 + 1) % 256 by omega, show (v + 1) % 4294967296 / 65536 % 256 = 0 by omega, show (v + 1) % 4294967296 / 256 % 256 = 0 by omega, show (v + 1) % 4294967296 % 256 = 0 by omega]
      · simp only [nextGo, ↓reduceIte, List.getD, List.getElem?_cons_succ, List.getElem?_cons_zero, Option.getD_some, List.set_cons_succ, List.set_cons_zero, Nat.reduceAdd, h1, h2, h3, List.map_cons, List.map_nil, hbk, cB, List.cons_append, List.nil_append]
        rw [show (v + 1) % 4294967296 / 16777216 = v / 16777216 by omega, show (v + 1) % 4294967296 / 65536 % 256 = (v / 65536 % 256 + 1) % 256 by omega, show (v + 1) % 4294967296 / 256 % 256 = 0 by omega, show (v + 1) % 4294967296 % 256 = 0 by omega]
    · simp only [nextGo, ↓reduceIte, List.getD, List.getElem?_cons_succ, List.getElem?_cons_zero, Option.getD_some, List.set_cons_succ, List.set_cons_zero, Nat.reduceAdd, h1, h2, List.map_cons, List.map_nil, hbk, cB, List.cons_append, List.nil_append]
      rw [show (v + 1) % 4294967296 / 16777216 = v / 16777216 by omega, show (v + 1) % 4294967296 / 65536 % 256 = v / 65536 % 256 by omega, show (v + 1) % 4294967296 / 256 % 256 = (v / 256 % 256 + 1) % 256 by omega, show (v + 1) % 4294967296 % 256 = 0 by omega]
  · simp only [nextGo, ↓reduceIte, List.getD, List.getElem?_cons_succ, List.getElem?_cons_zero, Option.getD_some, List.set_cons_succ, List.set_cons_zero, Nat.reduceAdd, h1, List.map_cons, List.map_nil, hbk, cB, List.cons_append, List.nil_append]
    rw [show (v + 1) % 4294967296 / 16777216 = v / 16777216 by omega, show (v + 1) % 4294967296 / 65536 % 256 = v / 65536 % 256 by omega, show (v + 1) % 4294967296 / 256 % 256 = v / 256 % 256 by omega, show (v + 1) % 4294967296 % 256 = (v % 256 + 1) % 256 by omega]
/-- The last four bytes' number, behind j of them. -/
def lowN (x : List UInt8) : Nat → Nat
  | 0 => 0
  | j + 1 => lowN x j * 256 + byteF x (12 + j)
theorem lowN_lt (x : List UInt8) : ∀ j, lowN x j < 256 ^ j
  | 0 => by unfold lowN; omega
  | j + 1 => by
    have h1 := lowN_lt x j
    have h2 := byteF_lt x (12 + j)
    rw [lowN, Nat.pow_succ]
    omega
theorem low_lt (x : List UInt8) : lowN x 4 < 4294967296 := lowN_lt x 4
set_option maxRecDepth 100000 in
theorem cB_low (x : List UInt8) (h : x.length = 16) : cB (x.take 12) (lowN x 4) = x := by
  have h0 := byteF_lt x 12
  have h1 := byteF_lt x 13
  have h2 := byteF_lt x 14
  have h3 := byteF_lt x 15
  have e : lowN x 4 = ((byteF x 12 * 256 + byteF x 13) * 256 + byteF x 14) * 256 + byteF x 15 := by simp [lowN]
  rw [cB, e]
  generalize hq0 : byteF x 12 = q0 at *
  generalize hq1 : byteF x 13 = q1 at *
  generalize hq2 : byteF x 14 = q2 at *
  generalize hq3 : byteF x 15 = q3 at *
  rw [show (((q0 * 256 + q1) * 256 + q2) * 256 + q3) / 16777216 = q0 by omega, show (((q0 * 256 + q1) * 256 + q2) * 256 + q3) / 65536 % 256 = q1 by omega, show (((q0 * 256 + q1) * 256 + q2) * 256 + q3) / 256 % 256 = q2 by omega, show (((q0 * 256 + q1) * 256 + q2) * 256 + q3) % 256 = q3 by omega]
  have hb : ∀ j, UInt8.ofNat (byteF x j) = x.getD j 0 := fun j => by simp [byteF]
  rw [← hq0, ← hq1, ← hq2, ← hq3, hb, hb, hb, hb]
  match x, h with
  | [_, _, _, _, _, _, _, _, _, _, _, _, _, _, _, _], _ => rfl
theorem ctr_eq (x : List UInt8) (h : x.length = 16) : ∀ k, ctr x k = cB (x.take 12) ((lowN x 4 + k) % 4294967296)
  | 0 => by
    rw [Nat.add_zero, Nat.mod_eq_of_lt (low_lt x), cB_low x h]; rfl
  | k + 1 => by
    rw [ctr, ctr_eq x h k, next_cB _ _ (by simp [h]) (Nat.mod_lt _ (by omega))]
    congr 1
    omega
set_option maxRecDepth 100000 in
theorem counter_any (x : List UInt8) (n : Nat) (w : World) (h : x.length = 16) (hn : n ≤ 1000000) : Calls Try.prog 50 #[.string (B x), .int .i64 n] w fun e w' => e = .returned (.string (B (ctr x n))) ∧ Below w.heap.size w w' := by
  have HC := Lib.hid (ctr_eq x h n)
  go_enter Try.func50, Try.ntmps50
  go_wp2
  go_loop [5, 6] (fun s5 s6 => ∃ j v : Nat, j ≤ 4 ∧ s6 = .int .i64 (12 + (j : Int)) ∧ s5 = .int .i64 v ∧ v = lowN x j) (fun _ s => 16 - (intOf s).toNat)
  case atStart => exact ⟨0, 0, by omega, rfl, rfl, rfl⟩
  case round =>
    obtain ⟨j, v, hj, rfl, rfl, hv⟩ := hrel
    have HV := Lib.hid hv
    have hvl : v < 256 ^ j := by rw [hv]; exact lowN_lt x j
    clear hv
    by_cases hj4 : j = 4
    · subst hj4
      have hq : ((v : Int) + (n : Int)) % 4294967296 = (((v + n) % 4294967296 : Nat) : Int) := by omega
      have hql : (v + n) % 4294967296 < 4294967296 := Nat.mod_lt _ (by omega)
      have HQ := Lib.hid (show (v + n) % 4294967296 = (lowN x 4 + n) % 4294967296 by rw [HV.out])
      generalize (v + n) % 4294967296 = q at *
      have hd0 : (q : Int) / 16777216 = ((q / 16777216 : Nat) : Int) := by omega
      have hd1 : (q : Int) / 65536 % 256 = ((q / 65536 % 256 : Nat) : Int) := by omega
      have hd2 : (q : Int) / 256 % 256 = ((q / 256 % 256 : Nat) : Int) := by omega
      have hd3 : (q : Int) % 256 = ((q % 256 : Nat) : Int) := by omega
      have hl0 : q / 16777216 < 256 := by omega
      have hl1 : q / 65536 % 256 < 256 := by omega
      have hl2 : q / 256 % 256 < 256 := by omega
      have hl3 : q % 256 < 256 := by omega
      have HCB := Lib.hid (show cB (x.take 12) q = x.take 12 ++ [UInt8.ofNat (q / 16777216), UInt8.ofNat (q / 65536 % 256), UInt8.ofNat (q / 256 % 256), UInt8.ofNat (q % 256)] from rfl)
      generalize q / 16777216 = d0 at *
      generalize q / 65536 % 256 = d1 at *
      generalize q / 256 % 256 = d2 at *
      generalize q % 256 = d3 at *
      have hst : (convert 24 9 (.slice (some ⟨w.heap.size, 0, none⟩) 4 4)).run Try.prog (w.alloc (.cells #[.int .u8 (d0 : Int), .int .u8 (d1 : Int), .int .u8 (d2 : Int), .int .u8 (d3 : Int)] 5)).drew = .ok (.string (B [UInt8.ofNat d0, UInt8.ofNat d1, UInt8.ofNat d2, UInt8.ofNat d3])) (w.alloc (.cells #[.int .u8 (d0 : Int), .int .u8 (d1 : Int), .int .u8 (d2 : Int), .int .u8 (d3 : Int)] 5)).drew := by
        refine string_of _ 24 9 5 _ 4 4 [d0, d1, d2, d3] Try.underlying24 Try.underlying5 Try.underlying9 rfl fun i hi => ?_
        have e1 : (⟨w.heap.size, 0, none⟩ : Addr).add i = ⟨w.heap.size, i, none⟩ := by simp [Addr.add]; omega
        rw [e1]
        show (w.alloc (.cells (nums .u8 [d0, d1, d2, d3]) 5)).cell? _ = _
        rw [World.cell?_alloc_new, nums_getD .u8 hi]
      go_wp2
      go_region
      go_wp2
      go_ret
      exact ⟨by rw [HC.out, ← HQ.out, HCB.out]; rfl, by ((repeat' (with_reducible first | exact Below.refl _ _ | assumption | refine Below.drew ?_ | refine below_drewN ?_ _ | refine Below.setCell ?_ ?_ _ | refine Below.alloc ?_ ?_ _ | refine Below.ext ?_ ?_ _ | refine Below.trans ?_ (Below.mono ‹_› ?_))) <;> first | omega | (simp; done) | (simp; omega))⟩
    · have hlt : 12 + (j : Int) < 16 := by omega
      have hjx : 12 + j < x.length := by omega
      have hy : wrap64 ((x[12 + j].toNat : Nat) : Int) = ((byteF x (12 + j) : Nat) : Int) := by
        have := x[12 + j].toNat_lt
        simp [byteF, List.getD, hjx, wrap64]
        omega
      have hvm : v < 16777216 := Nat.lt_of_lt_of_le hvl (show 256 ^ j ≤ 256 ^ 3 from Nat.pow_le_pow_right (by omega) (by omega))
      have hbl := byteF_lt x (12 + j)
      have HN := Lib.hid (show lowN x (j + 1) = lowN x j * 256 + byteF x (12 + j) from rfl)
      generalize byteF x (12 + j) = bb at *
      go_wp2
      go_round
      case rel => exact ⟨j + 1, v * 256 + bb, by omega, by go_num, by simp, by rw [HN.out, HV.out]⟩
      case measure => simp [intOf]; omega
end Go.Proofs.Ytnnoimikoddbcaa.Ref08
