/-
  Several texts in one: Itm3 Itm4 Itm5 Itm6 Itm7 Itm8 Eid3 Ref10 Ref10b Ref10c Blank Itm9 Itm10 Itm11 Itm12 Itm13 Cbr1 Crc1 Crc2 Sx7 Ite1 Irw.
  Conditions: named at each.
-/
import Derived.Test.YtcdjakemdlinhaaGreatDoorG02
import Derived.Deep.CutRange
import Derived.StillTailTactics
import Derived.Deep.QuietTactic
import Derived.BigQuiet
import Derived.IntWalk
import Derived.Deep.RegionHeld3
import Derived.Deep.AppendLies
set_option maxHeartbeats 16000000
set_option linter.unusedSimpArgs false
set_option linter.unusedVariables false
set_option linter.unusedSectionVars false
namespace Go.Proofs.YtcdjakemdlinhaaGreatDoor.Itm
open Go.ChangeShapes Go.WideShapes Go.ChangeAt Go.RowKit
def okN (k : Int) (n : Nat) (s : List UInt8) (len : Nat) (o : Bool) : Bool :=
 if k = 0 then decide (s = []) && decide (len = 0) && !o
 else if k = 2 ∨ k = 3 then decide (n = 0) && decide (len = 0) && !o
 else if k = 4 then decide (n = 0) && decide (s = []) && decide (len ≤ 1000)
 else false
theorem oQ {k : Int} {n : Nat} {s : List UInt8} {len : Nat} {o : Bool} (h : okN k n s len o = true) :
  (k = 0 ∧ s = [] ∧ len = 0 ∧ o = false) ∨ (k = 2 ∧ n = 0 ∧ len = 0 ∧ o = false) ∨ (k = 3 ∧ n = 0 ∧ len = 0 ∧ o = false) ∨ (k = 4 ∧ n = 0 ∧ s = [] ∧ len ≤ 1000) := by
 unfold okN at h
 split at h
 · next h0 => simp at h; exact .inl ⟨h0, h.1.1, h.1.2, h.2⟩
 ·
  split at h
  ·
   next h0 h1 =>
   simp at h
   rcases h1 with h1 | h1
   · exact .inr (.inl ⟨h1, h.1.1, h.1.2, h.2⟩)
   · exact .inr (.inr (.inl ⟨h1, h.1.1, h.1.2, h.2⟩))
  ·
   split at h
   · next h0 h1 h2 => simp at h; exact .inr (.inr (.inr ⟨h2, h.1.1, h.1.2, h.2⟩))
   · cases h
mutual
def sK : Tr → Bool
 | .mk k n s l o => okN k n s l.length o && aDL l
def aDL : List Tr → Bool
 | [] => true
 | t :: ts => sK t && aDL ts
end
theorem aDK : ∀ l : List Tr, aDL l = l.all sK
 | [] => by simp [aDL]
 | t :: ts => by rw [aDL, List.all_cons, aDK ts]
theorem aDM (t : Tr) : sK t = (okN t.k t.n t.s t.l.length t.o && t.l.all sK) := by
 obtain ⟨k, n, s, l, o⟩ := t
 rw [sK, aDK]
 rfl
def aN : Nat → Tr → Bool
 | 0, _ => false
 | d + 1, t => okN t.k t.n t.s t.l.length t.o && t.l.all (aN d)
theorem aJx {f : Tr → Nat} {b : Nat} : ∀ (l : List Tr) (n : Nat), l.foldl (fun n x => max n (f x)) n ≤ b ↔ n ≤ b ∧ ∀ x ∈ l, f x ≤ b
 | [], n => by simp
 | x :: l, n => by
  rw [List.foldl_cons, aJx l]
  simp only [List.mem_cons, forall_eq_or_imp]
  constructor
  · intro ⟨h1, h2⟩; exact ⟨by omega, by omega, h2⟩
  · intro ⟨h1, h2, h3⟩; exact ⟨by omega, h3⟩
theorem aA6 : ∀ d t, aN d t = (decide (aFt (d + 1) t ≤ d) && sK t)
 | 0, t => by
  have : ¬ aFt 1 t ≤ 0 := by unfold aFt; omega
  rw [decide_eq_false this]
  rfl
 | d + 1, t => by
  rw [aDM t]
  have hd : aFt (d + 2) t ≤ d + 1 ↔ ∀ x ∈ t.l, aFt (d + 1) x ≤ d := by
   show t.l.foldl (fun n x => max n (aFt (d + 1) x)) 0 + 1 ≤ d + 1 ↔ _
   rw [Nat.add_le_add_iff_right, aJx]
   simp
  rw [Bool.eq_iff_iff]
  simp only [aN, Bool.and_eq_true, List.all_eq_true, decide_eq_true_eq, hd]
  constructor
  ·
   intro ⟨h1, h2⟩
   have h3 := fun x hx => by have := h2 x hx; rw [aA6 d x, Bool.and_eq_true, decide_eq_true_eq] at this; exact this
   exact ⟨fun x hx => (h3 x hx).1, h1, fun x hx => (h3 x hx).2⟩
  ·
   intro ⟨h1, h2, h3⟩
   exact ⟨h2, fun x hx => by rw [aA6 d x, Bool.and_eq_true, decide_eq_true_eq]; exact ⟨h1 x hx, h3 x hx⟩⟩
end Go.Proofs.YtcdjakemdlinhaaGreatDoor.Itm
namespace Go.Proofs.YtcdjakemdlinhaaGreatDoor.Itm
open Go.ChangeShapes Go.WideShapes Go.ChangeAt Go.RowKit Go.Deep
section
variable {P : Program} {ops : Array Oper} {Q : Exit → Act → World → Prop} {md : Region.Mode} {S : World → Prop}
end
def dg (n : Nat) : Nat → List UInt8
 | 0 => []
 | i + 1 => UInt8.ofNat (n / 256 ^ i) :: dg n i
theorem dT (n : Nat) : ∀ i, (dg n i).length = i
 | 0 => rfl
 | i + 1 => by rw [dg, List.length_cons, dT n i]
def aD (m n : Nat) : List UInt8 :=
 if n < 24 then [UInt8.ofNat (32 * m + n)]
 else if n < 256 then UInt8.ofNat (32 * m + 24) :: dg n 1
 else if n < 65536 then UInt8.ofNat (32 * m + 25) :: dg n 2
 else if n < 4294967296 then UInt8.ofNat (32 * m + 26) :: dg n 4
 else UInt8.ofNat (32 * m + 27) :: dg n 8
theorem aW (m n : Nat) : 1 ≤ (aD m n).length ∧ (aD m n).length ≤ 9 := by
 unfold aD
 repeat' split
 all_goals simp [dT]
mutual
def aE : Tr → List UInt8
 | .mk k n s l o => if k = 0 then aD 0 n else if k < 4 then aD k.toNat s.length ++ s else (if o then [159] else aD 4 l.length) ++ (dG l ++ (if o then [255] else []))
def dG : List Tr → List UInt8
 | [] => []
 | t :: ts => aE t ++ dG ts
end
theorem tI : ∀ a b, dG (a ++ b) = dG a ++ dG b
 | [], b => by simp [dG]
 | x :: a, b => by rw [List.cons_append, dG, dG, tI a b, List.append_assoc]
theorem aFA {l : List Tr} {i : Nat} {x : Tr} (h : l[i]? = some x) : dG (l.take (i + 1)) = dG (l.take i) ++ aE x := by
 rw [List.take_add_one, h, tI]
 simp [dG]
mutual
theorem eM : ∀ t : Tr, (aE t).length ≤ 10 * szT t
 | .mk k n s l o => by
  have h0 := (aW 0 n).2
  have h1 := (aW k.toNat s.length).2
  have h2 := (aW 4 l.length).2
  have h3 := lG l
  rw [aE, szT]
  split
  · omega
  ·
   split
   · simp; omega
   · cases o <;> simp <;> omega
theorem lG : ∀ l : List Tr, (dG l).length ≤ 10 * szL l
 | [] => by simp [dG]
 | t :: ts => by
  have h1 := eM t
  have h2 := lG ts
  rw [dG, szL, List.length_append]
  omega
end
theorem aEL {l : List Tr} (i : Nat) : szL (l.take i) ≤ szL l := by
 have h := qD (l.take i) (l.drop i)
 rw [List.take_append_drop] at h
 omega
theorem aCO {l : List Tr} {i : Nat} {x : Tr} (h : l[i]? = some x) : szT x ≤ szL l := by
 have h1 := aKl h
 have h2 := aEL (l := l) (i + 1)
 omega
end Go.Proofs.YtcdjakemdlinhaaGreatDoor.Itm
namespace Go.Proofs.YtcdjakemdlinhaaGreatDoor.Eid
open Go.ChangeShapes Go.WideShapes Go.ChangeAt Go.RowKit


def sl : List UInt8 → Nat → Nat
 | [], _ => 0
 | c :: r, i => if c.toNat = 47 then i else sl r (i + 1)
theorem aJ2 (l : List UInt8) (w : World) (hl : l.length ≤ maxLen) : Calls Tryz.prog 157 #[.string (B l)] w fun e w' => e = .returned (.int .i64 (sl (l.drop 2) 2)) ∧ w = w' := by
 unfold maxLen at hl
 generalize hS : sl (l.drop 2) 2 = S
 have HS := Lib.hid hS
 clear hS
 go_enter Tryz.func157, Tryz.ntmps157
 go_wp2
 go_loop [3] (fun i => ∃ k : Nat, 2 ≤ k ∧ i = .int .i64 k ∧ S = sl (l.drop k) k) (fun i => l.length - (intOf i).toNat)
 case atStart => exact ⟨2, Nat.le_refl _, rfl, HS.out.symm⟩
 case round =>
  obtain ⟨k, hk, rfl, hv⟩ := hrel
  by_cases hlt : k < l.length
  ·
   rw [List.drop_eq_getElem_cons hlt] at hv
   have HV := Lib.hid hv
   clear hv
   cases h47 : ((l[k].toNat : Int) == 47)
   ·
    have e : S = sl (l.drop (k + 1)) (k + 1) := by
     rw [HV.out]
     conv => lhs; unfold sl
     rw [if_neg (by rw [beq_eq_false_iff_ne] at h47; omega)]
    have HE := Lib.hid e
    clear e
    go_wp2
    go_round
    case rel => exact ⟨k + 1, by omega, by go_num, HE.out⟩
    case measure => simp [intOf]; omega
   ·
    have e : S = k := by
     rw [HV.out]
     unfold sl
     rw [if_pos (by rw [beq_iff_eq] at h47; omega)]
    have HE := Lib.hid e
    clear e
    go_wp2
    go_ret
    exact ⟨by rw [HE.out]; rfl, rfl⟩
  ·
   have e : S = 0 := by rw [hv, List.drop_of_length_le oW]; rfl
   have HE := Lib.hid e
   clear e hv
   go_wp2
   go_ret
   exact ⟨by rw [HE.out]; rfl, rfl⟩

def aC6 : List UInt8 := [97, 98, 99, 100, 101, 102, 103, 104, 105, 106, 107, 108, 109, 110, 111, 112, 113, 114, 115, 116, 117, 118, 119, 120, 121, 122, 48, 49, 50, 51, 52, 53, 54, 55, 56, 57, 45, 46]
theorem aFp : ∀ c : Fin 256, aC6.any (fun d => d.toNat == c.val) = nb c.val := by decide +kernel
theorem aCl (c : UInt8) (w : World) : Calls Tryz.prog 158 #[.int .u8 c.toNat] w fun e w' => e = .returned (.bool (nb c.toNat)) ∧ w = w' := by
 have hc := aFp ⟨c.toNat, c.toNat_lt⟩
 simp only at hc
 have hB : (⟨#[97, 98, 99, 100, 101, 102, 103, 104, 105, 106, 107, 108, 109, 110, 111, 112, 113, 114, 115, 116, 117, 118, 119, 120, 121, 122, 48, 49, 50, 51, 52, 53, 54, 55, 56, 57, 45, 46]⟩ : ByteArray) = B aC6 := rfl
 have hl : aC6.length = 38 := rfl
 generalize aC6 = L at *
 generalize c.toNat = x at *
 have HC := Lib.hid hc
 clear hc
 go_enter Tryz.func158, Tryz.ntmps158
 go_wp2
 go_loop [3] (fun i => ∃ k : Nat, k ≤ 38 ∧ i = .int .i64 k ∧ nb x = (L.drop k).any (fun d => d.toNat == x)) (fun i => 38 - (intOf i).toNat)
 case atStart => exact ⟨0, by omega, rfl, HC.out.symm⟩
 case round =>
  obtain ⟨k, hk, rfl, hv⟩ := hrel
  by_cases hlt : k < L.length
  ·
   rw [List.drop_eq_getElem_cons hlt] at hv
   have HV := Lib.hid hv
   clear hv
   have h38 : k < 38 := by omega
   cases hx : ((L[k].toNat : Int) == (x : Int))
   ·
    have e : nb x = (L.drop (k + 1)).any (fun d => d.toNat == x) := by
     rw [HV.out, List.any_cons]
     rw [beq_eq_false_iff_ne] at hx
     have : (L[k].toNat == x) = false := by rw [beq_eq_false_iff_ne]; omega
     rw [this, Bool.false_or]
    have HE := Lib.hid e
    clear e
    go_wp2
    go_round
    case rel => exact ⟨k + 1, by omega, by go_num, HE.out⟩
    case measure => simp [intOf]; omega
   ·
    have e : nb x = true := by
     rw [HV.out, List.any_cons]
     rw [beq_iff_eq] at hx
     have : (L[k].toNat == x) = true := by rw [beq_iff_eq]; omega
     rw [this, Bool.true_or]
    have HE := Lib.hid e
    clear e
    go_wp2
    go_ret
    exact ⟨by rw [HE.out]; rfl, rfl⟩
  ·
   have e : nb x = false := by rw [hv, List.drop_of_length_le oW]; rfl
   have HE := Lib.hid e
   clear e hv
   have h38 : ¬ k < 38 := by omega
   go_wp2
   go_ret
   exact ⟨by rw [HE.out]; rfl, rfl⟩

def chk (k : Nat) : List UInt8 → Nat → Bool
 | [], _ => true
 | c :: r, i => decide ((i < k → nb c.toNat = true) ∧ (k < i → iP c = true)) && chk k r (i + 1)
theorem aCz (k : Nat) : ∀ (l : List UInt8) (i : Nat), k < i → chk k l i = l.all iP
 | [], _, _ => rfl
 | c :: r, i, h => by
  unfold chk
  rw [aCz k r (i + 1) oW, List.all_cons]
  congr 1
  rw [Bool.eq_iff_iff, decide_eq_true_eq]
  exact ⟨fun x => x.2 h, fun x => ⟨fun y => by omega, fun _ => x⟩⟩
theorem aKr : ∀ (l : List UInt8) (i : Nat), sl l i = 0 ∨ i ≤ sl l i
 | [], i => Or.inl rfl
 | c :: r, i => by
  unfold sl
  split
  · exact Or.inr (Nat.le_refl _)
  ·
   rcases aKr r (i + 1) with h | h
   · exact Or.inl h
   · exact Or.inr oW
theorem aIp : ∀ (m : List UInt8) (i : Nat), (scan m i != 0 && (m.drop (scan m i - (i + 2))).all iP) = (decide (sl m (i + 2) ≠ 0 ∧ (i = 0 → sl m (i + 2) ≠ 2)) && chk (sl m (i + 2)) m (i + 2))
  ∧ (scan m i ≠ 0 → scan m i = sl m (i + 2) + 1 ∧ i + 2 < scan m i)
 | [], i => by simp [scan, sl]
 | c :: r, i => by
  obtain ⟨ih1, ih2⟩ := aIp r (i + 1)
  by_cases h47 : c.toNat = 47
  ·
   have hn : nb c.toNat = false := by rw [h47]; decide
   have e1 : sl (c :: r) (i + 2) = i + 2 := by unfold sl; rw [if_pos h47]
   by_cases h0 : 0 < i
   ·
    have e2 : scan (c :: r) i = i + 3 := by unfold scan; rw [if_neg (by simp [hn]), if_pos ⟨h47, h0⟩]
    rw [e1, e2]
    refine ⟨?_, fun _ => ⟨by omega, by omega⟩⟩
    rw [show i + 3 - (i + 2) = 1 by omega, List.drop_one, List.tail_cons]
    unfold chk
    rw [aCz (i + 2) r (i + 2 + 1) oW]
    simp; omega
   ·
    have e2 : scan (c :: r) i = 0 := by unfold scan; rw [if_neg (by simp [hn]), if_neg oW]
    rw [e1, e2]
    refine ⟨?_, fun h => absurd rfl h⟩
    obtain rfl : i = 0 := by omega
    simp
  ·
   have e1 : sl (c :: r) (i + 2) = sl r (i + 1 + 2) := by
    conv => lhs; unfold sl
    rw [if_neg h47]
   have hge := aKr r (i + 1 + 2)
   cases hn : nb c.toNat
   ·
    have e2 : scan (c :: r) i = 0 := by unfold scan; rw [if_neg (by simp [hn]), if_neg oW]
    rw [e1, e2]
    refine ⟨?_, fun h => absurd rfl h⟩
    rcases hge with h | h
    · simp [h]
    ·
     unfold chk
     simp [hn]
     intro _ _ h'
     omega
   ·
    have e2 : scan (c :: r) i = scan r (i + 1) := by
     conv => lhs; unfold scan
     rw [if_pos hn]
    rw [e1, e2]
    refine ⟨?_, fun h => ⟨(ih2 h).1, by have := (ih2 h).2; omega⟩⟩
    by_cases hz : scan r (i + 1) = 0
    ·
     rw [hz] at ih1 ⊢
     have e3 : (decide (sl r (i + 1 + 2) ≠ 0 ∧ (i + 1 = 0 → sl r (i + 1 + 2) ≠ 2)) && chk (sl r (i + 1 + 2)) r (i + 1 + 2)) = false := by rw [← ih1]; simp
     rcases hge with h | h
     · simp [h]
     ·
      have e4 : chk (sl r (i + 1 + 2)) r (i + 1 + 2) = false := by
       have : decide (sl r (i + 1 + 2) ≠ 0 ∧ (i + 1 = 0 → sl r (i + 1 + 2) ≠ 2)) = true := by rw [decide_eq_true_eq]; omega
       rw [this, Bool.true_and] at e3
       exact e3
      unfold chk
      rw [show i + 2 + 1 = i + 1 + 2 by omega, e4]
      simp
    ·
     obtain ⟨h1, h2⟩ := ih2 hz
     have e3 : (scan r (i + 1) - (i + 2)) = (scan r (i + 1) - (i + 1 + 2)) + 1 := by omega
     rw [e3, List.drop_succ_cons]
     unfold chk
     rw [show i + 2 + 1 = i + 1 + 2 by omega]
     rw [ih1]
     have d1 : decide (sl r (i + 1 + 2) ≠ 0 ∧ (i + 1 = 0 → sl r (i + 1 + 2) ≠ 2)) = true := by rw [decide_eq_true_eq]; omega
     have d2 : decide (sl r (i + 1 + 2) ≠ 0 ∧ (i = 0 → sl r (i + 1 + 2) ≠ 2)) = true := by rw [decide_eq_true_eq]; omega
     have d3 : decide ((i + 2 < sl r (i + 1 + 2) → nb c.toNat = true) ∧ (sl r (i + 1 + 2) < i + 2 → iP c = true)) = true := by
      rw [decide_eq_true_eq]
      exact ⟨fun _ => hn, fun h => by omega⟩
     rw [d1, d2, d3]
     simp
def eY (l : List UInt8) : Bool :=
 l == [110, 111, 110, 101] || (decide (3 ≤ sl (l.drop 2) 2) && l.take 2 == [47, 47] && chk (sl (l.drop 2) 2) (l.drop 2) 2)
theorem aEZ (l : List UInt8) (h60 : l.length ≤ 60) : eY l = mS l := by
 unfold eY mS
 congr 1
 have hge := aKr (l.drop 2) 2
 unfold jN
 by_cases hp : pre [47, 47] l = true
 ·
  have ht : (l.take 2 == [47, 47]) = true := by
   have := rC l [47, 47]
   rw [hp] at this
   simp only [Bool.and_eq_true] at this
   exact this.2
  rw [if_pos ⟨hp, h60⟩, ht]
  obtain ⟨h1, h2⟩ := aIp (l.drop 2) 0
  simp only [Nat.zero_add] at h1 h2
  have e : (decide (3 ≤ sl (l.drop 2) 2)) = decide (sl (l.drop 2) 2 ≠ 0 ∧ (True → sl (l.drop 2) 2 ≠ 2)) := by
   rw [Bool.eq_iff_iff, decide_eq_true_eq, decide_eq_true_eq]
   simp only [true_implies]
   omega
  rw [Bool.and_true, e, ← h1, List.drop_drop]
  by_cases hz : scan (l.drop 2) 0 = 0
  · simp [hz]
  ·
   have := (h2 hz).2
   rw [show 2 + (scan (l.drop 2) 0 - 2) = scan (l.drop 2) 0 by omega]
 ·
  rw [if_neg (fun h => hp h.1)]
  have ht : (decide (3 ≤ sl (l.drop 2) 2) && (l.take 2 == [47, 47])) = false := by
   have := rC l [47, 47]
   rw [Bool.not_eq_true] at hp
   rw [hp] at this
   rcases hge with h | h
   · simp [h]
   ·
    by_cases h2 : 2 ≤ l.length
    ·
     simp [h2] at this
     simp [this]
    ·
     have : sl (l.drop 2) 2 = 0 := by rw [List.drop_of_length_le oW]; rfl
     simp [this]
  rw [ht]
  rfl

theorem aBn (l : List UInt8) (h : 60 < l.length) : mS l = false := by
 unfold mS jN
 rw [if_neg oW]
 have : (l == [110, 111, 110, 101]) = false := by
  rw [beq_eq_false_iff_ne]
  intro h'
  rw [h'] at h
  simp at h
 rw [this]; rfl
theorem aKH (l : List UInt8) (n v : Int) (w : World) : Calls Tryz.prog 116 #[.agg #[.int .i64 2, .string (B l), .int .u64 n, .int .u64 v]] w fun e w' => e = .returned (.bool (gM 2 l n v)) ∧ Below w.heap.size w w' := by
 go_enter Tryz.func116, Tryz.ntmps116
 go_wp2
 all_goals
  go_ret
  exact ⟨qF (by simp [gM, *]; try omega), by ((repeat' (with_reducible first | exact Below.refl _ _ | assumption | refine Below.drew ?_ | refine below_drewN ?_ _ | refine Below.setCell ?_ ?_ _ | refine Below.alloc ?_ ?_ _ | refine Below.ext ?_ ?_ _ | refine Below.trans ?_ (Below.mono ‹_› ?_))) <;> first | omega | (simp; done) | (simp; omega))⟩
theorem aGS (s : Int) (l : List UInt8) (n v : Int) (w : World) (h1 : (s == 1) = false) (h2 : (s == 2) = false) : Calls Tryz.prog 116 #[.agg #[.int .i64 s, .string (B l), .int .u64 n, .int .u64 v]] w fun e w' => e = .returned (.bool false) ∧ Below w.heap.size w w' := by
 have h3 : (s != 1) = true := by simp at h1 ⊢; exact h1
 go_enter Tryz.func116, Tryz.ntmps116
 go_wp2
 go_ret
 exact ⟨rfl, by ((repeat' (with_reducible first | exact Below.refl _ _ | assumption | refine Below.drew ?_ | refine below_drewN ?_ _ | refine Below.setCell ?_ ?_ _ | refine Below.alloc ?_ ?_ _ | refine Below.ext ?_ ?_ _ | refine Below.trans ?_ (Below.mono ‹_› ?_))) <;> first | omega | (simp; done) | (simp; omega))⟩
theorem aIH (l : List UInt8) (n v : Int) (w : World) (h : ¬ (n = 0 ∧ v = 0 ∧ l.length ≤ 60)) : Calls Tryz.prog 116 #[.agg #[.int .i64 1, .string (B l), .int .u64 n, .int .u64 v]] w fun e w' => e = .returned (.bool false) ∧ Below w.heap.size w w' := by
 go_enter Tryz.func116, Tryz.ntmps116
 cases hn : (n != 0)
 ·
  cases hv : (v != 0)
  ·
   have h6 : ¬ l.length ≤ 60 := by simp at hn hv; omega
   go_wp2
   go_ret
   exact ⟨rfl, by ((repeat' (with_reducible first | exact Below.refl _ _ | assumption | refine Below.drew ?_ | refine below_drewN ?_ _ | refine Below.setCell ?_ ?_ _ | refine Below.alloc ?_ ?_ _ | refine Below.ext ?_ ?_ _ | refine Below.trans ?_ (Below.mono ‹_› ?_))) <;> first | omega | (simp; done) | (simp; omega))⟩
  ·
   go_wp2
   go_ret
   exact ⟨rfl, by ((repeat' (with_reducible first | exact Below.refl _ _ | assumption | refine Below.drew ?_ | refine below_drewN ?_ _ | refine Below.setCell ?_ ?_ _ | refine Below.alloc ?_ ?_ _ | refine Below.ext ?_ ?_ _ | refine Below.trans ?_ (Below.mono ‹_› ?_))) <;> first | omega | (simp; done) | (simp; omega))⟩
 ·
  go_wp2
  go_ret
  exact ⟨rfl, by ((repeat' (with_reducible first | exact Below.refl _ _ | assumption | refine Below.drew ?_ | refine below_drewN ?_ _ | refine Below.setCell ?_ ?_ _ | refine Below.alloc ?_ ?_ _ | refine Below.ext ?_ ?_ _ | refine Below.trans ?_ (Below.mono ‹_› ?_))) <;> first | omega | (simp; done) | (simp; omega))⟩
theorem aE6 (w : World) : Calls Tryz.prog 116 #[.agg #[.int .i64 1, .string (B [110, 111, 110, 101]), .int .u64 0, .int .u64 0]] w fun e w' => e = .returned (.bool true) ∧ Below w.heap.size w w' := by
 go_enter Tryz.func116, Tryz.ntmps116
 go_wp2
 go_ret
 exact ⟨rfl, by ((repeat' (with_reducible first | exact Below.refl _ _ | assumption | refine Below.drew ?_ | refine below_drewN ?_ _ | refine Below.setCell ?_ ?_ _ | refine Below.alloc ?_ ?_ _ | refine Below.ext ?_ ?_ _ | refine Below.trans ?_ (Below.mono ‹_› ?_))) <;> first | omega | (simp; done) | (simp; omega))⟩
set_option maxRecDepth 100000 in
theorem aKI (l : List UInt8) (w : World) (h60 : l.length ≤ 60) (hne : (l == [110, 111, 110, 101]) = false) : Calls Tryz.prog 116 #[.agg #[.int .i64 1, .string (B l), .int .u64 0, .int .u64 0]] w fun e w' => e = .returned (.bool (eY l)) ∧ Below w.heap.size w w' := by
 have hr : eY l = (decide (3 ≤ sl (l.drop 2) 2) && l.take 2 == [47, 47] && chk (sl (l.drop 2) 2) (l.drop 2) 2) := by unfold eY; rw [hne]; rfl
 have HR := Lib.hid hr
 have hge := aKr (l.drop 2) 2
 clear hr
 go_enter Tryz.func116, Tryz.ntmps116
 go_wp2_with fail
 refine (aJ2 _ _ (by unfold maxLen; omega)).mono ?_; rintro e w1 ⟨rfl, rfl⟩
 generalize hk : sl (l.drop 2) 2 = k at *
 have HK := Lib.hid hk
 by_cases h3 : k < 3
 ·
  clear hk
  go_wp2
  go_ret
  exact ⟨by rw [HR.out]; have : decide (3 ≤ k) = false := (by simp; omega); rw [this]; rfl, by ((repeat' (with_reducible first | exact Below.refl _ _ | assumption | refine Below.drew ?_ | refine below_drewN ?_ _ | refine Below.setCell ?_ ?_ _ | refine Below.alloc ?_ ?_ _ | refine Below.ext ?_ ?_ _ | refine Below.trans ?_ (Below.mono ‹_› ?_))) <;> first | omega | (simp; done) | (simp; omega))⟩
 ·
  have h2 : 2 ≤ l.length := by
   rcases Nat.lt_or_ge l.length 2 with h | h
   ·
    rw [List.drop_of_length_le oW] at hk
    simp [sl] at hk
    omega
   · exact h
  clear hk
  cases ht : (l.take 2 == [47, 47])
  ·
   have HT := Lib.hid ht
   go_wp2
   go_ret
   exact ⟨by rw [HR.out, HT.out]; simp, by ((repeat' (with_reducible first | exact Below.refl _ _ | assumption | refine Below.drew ?_ | refine below_drewN ?_ _ | refine Below.setCell ?_ ?_ _ | refine Below.alloc ?_ ?_ _ | refine Below.ext ?_ ?_ _ | refine Below.trans ?_ (Below.mono ‹_› ?_))) <;> first | omega | (simp; done) | (simp; omega))⟩
  ·
   have hr2 : eY l = chk k (l.drop 2) 2 := by
    rw [HR.out, ht]
    have : decide (3 ≤ k) = true := by simp; omega
    rw [this]; rfl
   have HR2 := Lib.hid hr2
   clear hr2
   go_wp2
   clear ht
   go_loop [4] (fun i => ∃ j : Nat, 2 ≤ j ∧ i = .int .i64 j ∧ eY l = chk k (l.drop j) j) (fun i => l.length - (intOf i).toNat)
   case atStart => exact ⟨2, Nat.le_refl _, rfl, HR2.out⟩
   case round =>
    obtain ⟨j, hj, rfl, hv⟩ := hrel
    by_cases hlt : j < l.length
    ·
     rw [List.drop_eq_getElem_cons hlt] at hv
     unfold chk at hv
     have HV := Lib.hid hv
     clear hv
     by_cases hjk : j < k
     ·
      cases hn : nb l[j].toNat
      ·
       have e : eY l = false := by rw [HV.out]; simp [hjk, hn]
       have HE := Lib.hid e
       have HN := Lib.hid hn
       clear e hn
       go_wp2_with (go_at_call 158; refine (aCl _ _).mono ?_; rw [HN.out]; rintro e w' ⟨rfl, rfl⟩)
       go_ret
       exact ⟨by rw [HE.out]; rfl, by ((repeat' (with_reducible first | exact Below.refl _ _ | assumption | refine Below.drew ?_ | refine below_drewN ?_ _ | refine Below.setCell ?_ ?_ _ | refine Below.alloc ?_ ?_ _ | refine Below.ext ?_ ?_ _ | refine Below.trans ?_ (Below.mono ‹_› ?_))) <;> first | omega | (simp; done) | (simp; omega))⟩
      ·
       have e : eY l = chk k (l.drop (j + 1)) (j + 1) := by rw [HV.out]; simp [hjk, hn]; omega
       have HE := Lib.hid e
       have HN := Lib.hid hn
       clear e hn
       go_wp2_with (go_at_call 158; refine (aCl _ _).mono ?_; rw [HN.out]; rintro e w' ⟨rfl, rfl⟩)
       go_round
       case rel => exact ⟨j + 1, by omega, by go_num, HE.out⟩
       case measure => simp [intOf]; omega
     ·
      by_cases hkj : k < j
      ·
       by_cases h33 : l[j].toNat < 33
       ·
        have e : eY l = false := by rw [HV.out]; simp [hkj, iP]; omega
        have HE := Lib.hid e
        clear e
        go_wp2
        go_ret
        exact ⟨by rw [HE.out]; rfl, by ((repeat' (with_reducible first | exact Below.refl _ _ | assumption | refine Below.drew ?_ | refine below_drewN ?_ _ | refine Below.setCell ?_ ?_ _ | refine Below.alloc ?_ ?_ _ | refine Below.ext ?_ ?_ _ | refine Below.trans ?_ (Below.mono ‹_› ?_))) <;> first | omega | (simp; done) | (simp; omega))⟩
       ·
        by_cases h126 : 126 < l[j].toNat
        ·
         have e : eY l = false := by rw [HV.out]; simp [hkj, iP]; omega
         have HE := Lib.hid e
         clear e
         go_wp2
         go_ret
         exact ⟨by rw [HE.out]; rfl, by ((repeat' (with_reducible first | exact Below.refl _ _ | assumption | refine Below.drew ?_ | refine below_drewN ?_ _ | refine Below.setCell ?_ ?_ _ | refine Below.alloc ?_ ?_ _ | refine Below.ext ?_ ?_ _ | refine Below.trans ?_ (Below.mono ‹_› ?_))) <;> first | omega | (simp; done) | (simp; omega))⟩
        ·
         have e : eY l = chk k (l.drop (j + 1)) (j + 1) := by rw [HV.out]; simp [hkj, iP]; omega
         have HE := Lib.hid e
         clear e
         go_wp2
         go_round
         case rel => exact ⟨j + 1, by omega, by go_num, HE.out⟩
         case measure => simp [intOf]; omega
      ·
       have e : eY l = chk k (l.drop (j + 1)) (j + 1) := by rw [HV.out]; simp; omega
       have HE := Lib.hid e
       clear e
       go_wp2
       go_round
       case rel => exact ⟨j + 1, by omega, by go_num, HE.out⟩
       case measure => simp [intOf]; omega
    ·
     have e : eY l = true := by rw [hv, List.drop_of_length_le oW]; rfl
     have HE := Lib.hid e
     clear e hv
     go_wp2
     go_ret
     exact ⟨by rw [HE.out]; rfl, by ((repeat' (with_reducible first | exact Below.refl _ _ | assumption | refine Below.drew ?_ | refine below_drewN ?_ _ | refine Below.setCell ?_ ?_ _ | refine Below.alloc ?_ ?_ _ | refine Below.ext ?_ ?_ _ | refine Below.trans ?_ (Below.mono ‹_› ?_))) <;> first | omega | (simp; done) | (simp; omega))⟩
theorem aGT (s : Int) (l : List UInt8) (n v : Int) (w : World) : Calls Tryz.prog 116 #[.agg #[.int .i64 s, .string (B l), .int .u64 n, .int .u64 v]] w fun e w' => e = .returned (.bool (gM s l n v)) ∧ Below w.heap.size w w' := by
 by_cases h1 : s = 1
 ·
  subst h1
  by_cases h : n = 0 ∧ v = 0 ∧ l.length ≤ 60
  ·
   obtain ⟨rfl, rfl, h60⟩ := h
   have e : gM 1 l 0 0 = eY l := by rw [aEZ l h60]; simp [gM]
   rw [e]
   cases hne : (l == [110, 111, 110, 101])
   · exact aKI l w h60 hne
   ·
    rw [show eY l = true by unfold eY; rw [hne]; rfl]
    rw [beq_iff_eq] at hne
    subst hne
    exact aE6 w
  ·
   rw [show gM 1 l n v = false by
    by_cases hnv : n = 0 ∧ v = 0
    · simp [gM, aBn l oW]
    · simp [gM, hnv]]
   exact aIH l n v w h
 ·
  by_cases h2 : s = 2
  ·
   subst h2
   exact aKH l n v w
  ·
   rw [show gM s l n v = false by simp [gM, h1, h2]]
   exact aGS s l n v w (by simp [h1]) (by simp [h2])
end Go.Proofs.YtcdjakemdlinhaaGreatDoor.Eid
namespace Go.Proofs.YtcdjakemdlinhaaGreatDoor
open Go.ChangeShapes Go.WideShapes Go.ChangeAt Go.RowKit Go.Deep
end Go.Proofs.YtcdjakemdlinhaaGreatDoor
namespace Go.Proofs.YtcdjakemdlinhaaGreatDoor.Itm
open Go.ChangeShapes Go.WideShapes Go.ChangeAt Go.RowKit Go.Deep Go.Proofs.YtcdjakemdlinhaaGreatDoor.Eid
def cN (n : Nat) : Tr := .mk 0 n [] [] false
def dH (l : List Tr) : Tr := .mk 4 0 [] l false
def aNT (s : Nat) (l : List UInt8) (n v : Nat) : Tr := if s = 2 then dH [cN n, cN v] else if l = [110, 111, 110, 101] then cN 0 else .mk 3 0 l [] false
def aK5 (s : Nat) (l : List UInt8) (n v : Nat) : Tr := dH [cN s, aNT s l n v]
structure Nm where
 s : Nat
 l : List UInt8
 n : Nat
 v : Nat
def Nm.zero : Nm := ⟨0, [], 0, 0⟩
def Nm.none : Nm := ⟨1, [110, 111, 110, 101], 0, 0⟩
def aAm (x y : Tr) : Nm := if x.n = 1 ∧ y.k = 3 then ⟨1, y.s, 0, 0⟩ else Nm.none
def aDI (x y : Tr) : Nm := match y.l with
 | [p, q] => if x.n = 2 then ⟨2, [], p.n, q.n⟩ else aAm x y
 | _ => aAm x y
def iR (t : Tr) : Nm := if t.k = 4 then (match t.l with
 | [x, y] => if x.k = 0 then aDI x y else Nm.zero
 | _ => Nm.zero) else Nm.zero
theorem aIy {x y p q : Tr} (h : y.l = [p, q]) (hx : x.n = 2) : aDI x y = ⟨2, [], p.n, q.n⟩ := by unfold aDI; rw [h]; simp [hx]
theorem lE {x y : Tr} (h : ¬ (x.n = 2 ∧ y.l.length = 2)) : aDI x y = aAm x y := by
 unfold aDI
 split
 · next p q hl => rw [if_neg]; intro hx; exact h ⟨hx, by rw [hl]; rfl⟩
 · rfl
theorem aIz {t : Tr} (h : ¬ t.l.length = 2) : iR t = Nm.zero := by
 unfold iR
 split
 ·
  split
  · next x y hl => exact absurd (by rw [hl]; rfl) h
  · rfl
 · rfl
def Nm.right (m : Nm) : Bool := gM m.s m.l m.n m.v
def Nm.tree (m : Nm) : Tr := aK5 m.s m.l m.n m.v
def OfP (t : Tr) (m : Nm) : Prop := m.right = true ∧ aN 8 t = true ∧ t = m.tree
theorem aA7 {w : World} {t : Tr} {cs : List Value} (h : TAt w t cs) : (iR t).l.length ≤ R47 ∧ (iR t).n < W64 ∧ (iR t).v < W64 := by
 have hz : Nm.zero.l.length ≤ R47 ∧ Nm.zero.n < W64 ∧ Nm.zero.v < W64 := by decide
 have hn : Nm.none.l.length ≤ R47 ∧ Nm.none.n < W64 ∧ Nm.none.v < W64 := by decide
 unfold iR
 split
 ·
  split
  ·
   next x y hl =>
   obtain ⟨a, c, C, _, _, _, _, hel⟩ := aAO h
   rw [hl] at hel
   obtain ⟨_, _, _, _, _, hy, _⟩ := hel 1 y rfl
   obtain ⟨_, _, C1, _, _, hys, _, hel1⟩ := aAO hy
   have ht : (aAm x y).l.length ≤ R47 ∧ (aAm x y).n < W64 ∧ (aAm x y).v < W64 := by
    unfold aAm
    split
    · exact ⟨hys, (by decide : 0 < W64), (by decide : 0 < W64)⟩
    · exact hn
   split
   ·
    unfold aDI
    split
    ·
     next p q hpq =>
     rw [hpq] at hel1
     obtain ⟨_, _, _, _, _, hp, _⟩ := hel1 0 p rfl
     obtain ⟨_, _, _, _, _, hq, _⟩ := hel1 1 q rfl
     obtain ⟨_, _, _, _, hpn, _⟩ := aAO hp
     obtain ⟨_, _, _, _, hqn, _⟩ := aAO hq
     split
     · exact ⟨Nat.zero_le _, hpn, hqn⟩
     · exact ht
    · exact ht
   · exact hz
  · exact hz
 · exact hz
end Go.Proofs.YtcdjakemdlinhaaGreatDoor.Itm
namespace Go.Proofs.YtcdjakemdlinhaaGreatDoor.Itm
open Go.ChangeShapes Go.WideShapes Go.ChangeAt Go.RowKit Go.Deep Go.Great Go.Proofs.YtcdjakemdlinhaaGreatDoor.Eid
theorem aGP {m : Nm} (h : m.right = true) : iR m.tree = m := by
 obtain ⟨s, l, n, v⟩ := m
 unfold Nm.right gM at h
 simp only at h
 split at h
 ·
  next hs =>
  rw [Bool.and_eq_true, decide_eq_true_eq] at h
  obtain ⟨⟨hn, hv⟩, _⟩ := h
  obtain rfl : s = 1 := by omega
  obtain rfl : n = 0 := by omega
  obtain rfl : v = 0 := by omega
  by_cases hl : l = [110, 111, 110, 101]
  · subst hl; rfl
  · simp [Nm.tree, aK5, aNT, dH, cN, hl, iR, Tr.k, Tr.l, aDI, aAm, Tr.n, Tr.s]
 ·
  split at h
  ·
   next hs =>
   rw [decide_eq_true_eq] at h
   obtain ⟨rfl, _, _⟩ := h
   obtain rfl : s = 2 := by omega
   rfl
  · cases h
end Go.Proofs.YtcdjakemdlinhaaGreatDoor.Itm
namespace Go.Proofs.YtcdjakemdlinhaaGreatDoor.Itm
open Go.ChangeShapes Go.WideShapes Go.ChangeAt Go.RowKit Go.Deep
def pX (n : Nat) : Nat := if n < 24 then n else if n < 256 then 24 else if n < 65536 then 25 else if n < 4294967296 then 26 else 27
def aEF (n : Nat) : Nat := if n < 24 then 0 else if n < 256 then 1 else if n < 65536 then 2 else if n < 4294967296 then 4 else 8
theorem aGg (m n : Nat) : aD m n = UInt8.ofNat (32 * m + pX n) :: dg n (aEF n) := by
 unfold aD pX aEF
 repeat' split
 all_goals rfl
theorem aLu (n : Nat) : pX n < 28 := by
 unfold pX
 repeat' split
 all_goals omega
inductive NOk : Tr → Prop
 | mk (k : Int) (n : Nat) (s : List UInt8) (l : List Tr) (o : Bool) (hn : n < W64) (hs : s.length < W64) (hl : ∀ (i : Nat) (t : Tr), l[i]? = some t → NOk t) : NOk (.mk k n s l o)
inductive Form : Tr → Prop
 | num (n : Nat) : Form (.mk 0 n [] [] false)
 | str (s : List UInt8) : Form (.mk 2 0 s [] false)
 | text (s : List UInt8) : Form (.mk 3 0 s [] false)
 | arr (l : List Tr) (h : l.length ≤ 1000) : Form (.mk 4 0 [] l false)
 | opn (l : List Tr) : Form (.mk 4 0 [] l true)
theorem aJw {t : Tr} (h : sK t = true) : Form t := by
 obtain ⟨k, n, s, l, o⟩ := t
 rw [aDM] at h
 rcases oQ (Bool.and_eq_true_iff.1 h).1 with ⟨h1, h2, h3, h4⟩ | ⟨h1, h2, h3, h4⟩ | ⟨h1, h2, h3, h4⟩ | ⟨h1, h2, h3, h4⟩
 ·
  simp only [Tr.k, Tr.s, Tr.o, Tr.l] at h1 h2 h3 h4
  obtain rfl := List.length_eq_zero_iff.1 h3
  subst h1 h2 h4
  exact .num n
 ·
  simp only [Tr.k, Tr.n, Tr.o, Tr.l] at h1 h2 h3 h4
  obtain rfl := List.length_eq_zero_iff.1 h3
  subst h1 h2 h4
  exact .str s
 ·
  simp only [Tr.k, Tr.n, Tr.o, Tr.l] at h1 h2 h3 h4
  obtain rfl := List.length_eq_zero_iff.1 h3
  subst h1 h2 h4
  exact .text s
 ·
  simp only [Tr.k, Tr.n, Tr.s, Tr.l] at h1 h2 h3 h4
  subst h1 h2 h3
  cases o with
  | false => exact .arr l h4
  | true => exact .opn l
theorem aEs (n : Nat) : aE (.mk 0 n [] [] false) = aD 0 n := by rw [aE]; simp
theorem aBC (s : List UInt8) : aE (.mk 2 0 s [] false) = aD 2 s.length ++ s := by rw [aE]; simp
theorem aAe (s : List UInt8) : aE (.mk 3 0 s [] false) = aD 3 s.length ++ s := by rw [aE]; simp
theorem aBD (l : List Tr) : aE (.mk 4 0 [] l false) = aD 4 l.length ++ dG l := by rw [aE]; simp
theorem tH (l : List Tr) : aE (.mk 4 0 [] l true) = UInt8.ofNat (32 * 4 + 31) :: (dG l ++ [255]) := by rw [aE]; simp
end Go.Proofs.YtcdjakemdlinhaaGreatDoor.Itm
namespace Go.Proofs.YtcdjakemdlinhaaGreatDoor.Sx
open Go.ChangeShapes Go.WideShapes Go.ChangeAt Go.RowKit Go.Deep
def shf (n : Nat) (k : Nat) : UInt8 := UInt8.ofNat (IntKind.u8.wrap ((n : Int).fdiv (2 ^ k))).toNat
theorem lJ (n k i : Nat) (h : 2 ^ k = 256 ^ i) : shf n k = UInt8.ofNat (n / 256 ^ i) := by
 unfold shf
 have e : ((n : Int).fdiv (2 ^ k)) = ((n / 2 ^ k : Nat) : Int) := by
  rw [Int.fdiv_eq_ediv_of_nonneg _ (by exact Int.le_of_lt (Int.pow_pos (by decide)))]
  simp
 rw [e, h]
 generalize n / 256 ^ i = m
 have : IntKind.u8.wrap (m : Int) = ((m % 256 : Nat) : Int) := by simp [IntKind.wrap, IntKind.bits, IntKind.signed]
 rw [this]
 apply UInt8.toNat_inj.1
 simp
 omega
theorem aEQ (n : Nat) (w : World) (h : n < 2 ^ 8) : CP 194 #[.int .u8 (n : Int), .int .i64 1] w (Ret (.string (B (Itm.dg n 1))) w) := by
 have hw : IntKind.u64.wrap (n : Int) = (n : Int) := u64_in oW oW
 refine dK 29 Tryz.func194 ?_
 refine zQ 1 (zn (zQ 1 (cJ (fun b0 => (zq 1 (zn (zs (zQ 3 (zn (aB (gX (α := Nat) (fun x => match x with | 0 => [0,1,4,5,10,11].zip [(.int .u8 (n : Int)),(I6 1),(St []),(Sl b0 0 1 1),(I6 1),(I6 0)] | _ => [0,1,4,5,10,11].zip [(.int .u8 (n : Int)),(I6 1),(St []),(Sl b0 0 1 1),(I6 1),(I6 1)]) (fun _ => View.no) (fun x => match x with | 0 => [(bK b0 [(.int .u8 0)] 5)] | _ => [(bK b0 [(.int .u8 (IntKind.u8.wrap (((n : Int)).fdiv (2 ^ 0))))] 5)]) (fun x => x ≤ 1) (fun x => 1 - x) 0 oW ?_)))))))))))
 rintro x hx
 rcases (by omega : x = 0 ∨ x = 1) with rfl | rfl
 ·
  refine zQ 1 (zn (zs (dF (zk (zs (aB (zQ 2 (zn (zr (zq 4 (eE 17 (U6 (IntKind.u64.wrap (n : Int))) (N6 n) (congrArg (Value.int .u64) hw) ?_)))))))))))
  refine zq 8 (aY 0 b0 (zn (zr (zq 2 (zn ?_)))))
  refine nx 1 oW (by show 1 - 1 < 1 - 0; omega)
 ·
  refine zQ 1 (zn (zs (dE (aU (zB [0,1,0] [(b0,1)] (zn (aA (aH [4] [(St [UInt8.ofNat ((IntKind.u8.wrap (((n : Int)).fdiv (2 ^ 0))) : Int).toNat])] (fun W' hM => ?_)))))))))
  refine ⟨?_,hM.below⟩
  show Ending.returned (Value.string (B [shf n 0])) = _
  rw [lJ n 0 0 (by decide)]
  rfl
theorem aEP (n : Nat) (w : World) (h : n < 2 ^ 16) : CP 195 #[.int .u16 (n : Int), .int .i64 2] w (Ret (.string (B (Itm.dg n 2))) w) := by
 have hw : IntKind.u64.wrap (n : Int) = (n : Int) := u64_in oW oW
 refine dK 29 Tryz.func195 ?_
 refine zQ 1 (zn (zQ 1 (cJ (fun b0 => (zq 1 (zn (zs (zQ 3 (zn (aB (gX (α := Nat) (fun x => match x with | 0 => [0,1,4,5,10,11].zip [(.int .u16 (n : Int)),(I6 2),(St []),(Sl b0 0 2 2),(I6 2),(I6 0)] | 1 => [0,1,4,5,10,11].zip [(.int .u16 (n : Int)),(I6 2),(St []),(Sl b0 0 2 2),(I6 2),(I6 1)] | _ => [0,1,4,5,10,11].zip [(.int .u16 (n : Int)),(I6 2),(St []),(Sl b0 0 2 2),(I6 2),(I6 2)]) (fun _ => View.no) (fun x => match x with | 0 => [(bK b0 [(.int .u8 0),(.int .u8 0)] 5)] | 1 => [(bK b0 [(.int .u8 (IntKind.u8.wrap (((n : Int)).fdiv (2 ^ 8)))),(.int .u8 0)] 5)] | _ => [(bK b0 [(.int .u8 (IntKind.u8.wrap (((n : Int)).fdiv (2 ^ 8)))),(.int .u8 (IntKind.u8.wrap (((n : Int)).fdiv (2 ^ 0))))] 5)]) (fun x => x ≤ 2) (fun x => 2 - x) 0 oW ?_)))))))))))
 rintro x hx
 rcases (by omega : x = 0 ∨ x = 1 ∨ x = 2) with rfl | rfl | rfl
 ·
  refine zQ 1 (zn (zs (dF (zk (zs (aB (zQ 2 (zn (zr (zq 4 (eE 17 (U6 (IntKind.u64.wrap (n : Int))) (N6 n) (congrArg (Value.int .u64) hw) ?_)))))))))))
  refine zq 8 (aY 0 b0 (zn (zr (zq 2 (zn ?_)))))
  refine nx 1 oW (by show 2 - 1 < 2 - 0; omega)
 ·
  refine zQ 1 (zn (zs (dF (zk (zs (aB (zQ 2 (zn (zr (zq 4 (eE 17 (U6 (IntKind.u64.wrap (n : Int))) (N6 n) (congrArg (Value.int .u64) hw) ?_)))))))))))
  refine zq 8 (aY 0 b0 (zn (zr (zq 2 (zn ?_)))))
  refine nx 2 oW (by show 2 - 2 < 2 - 1; omega)
 ·
  refine zQ 1 (zn (zs (dE (aU (zB [0,1,0] [(b0,2)] (zn (aA (aH [4] [(St [UInt8.ofNat ((IntKind.u8.wrap (((n : Int)).fdiv (2 ^ 8))) : Int).toNat,UInt8.ofNat ((IntKind.u8.wrap (((n : Int)).fdiv (2 ^ 0))) : Int).toNat])] (fun W' hM => ?_)))))))))
  refine ⟨?_,hM.below⟩
  show Ending.returned (Value.string (B [shf n 8,shf n 0])) = _
  rw [lJ n 8 1 (by decide),lJ n 0 0 (by decide)]
  rfl
theorem aEO (n : Nat) (w : World) (h : n < 2 ^ 32) : CP 196 #[.int .u32 (n : Int), .int .i64 4] w (Ret (.string (B (Itm.dg n 4))) w) := by
 have hw : IntKind.u64.wrap (n : Int) = (n : Int) := u64_in oW oW
 refine dK 29 Tryz.func196 ?_
 refine zQ 1 (zn (zQ 1 (cJ (fun b0 => (zq 1 (zn (zs (zQ 3 (zn (aB (gX (α := Nat) (fun x => match x with | 0 => [0,1,4,5,10,11].zip [(.int .u32 (n : Int)),(I6 4),(St []),(Sl b0 0 4 4),(I6 4),(I6 0)] | 1 => [0,1,4,5,10,11].zip [(.int .u32 (n : Int)),(I6 4),(St []),(Sl b0 0 4 4),(I6 4),(I6 1)] | 2 => [0,1,4,5,10,11].zip [(.int .u32 (n : Int)),(I6 4),(St []),(Sl b0 0 4 4),(I6 4),(I6 2)] | 3 => [0,1,4,5,10,11].zip [(.int .u32 (n : Int)),(I6 4),(St []),(Sl b0 0 4 4),(I6 4),(I6 3)] | _ => [0,1,4,5,10,11].zip [(.int .u32 (n : Int)),(I6 4),(St []),(Sl b0 0 4 4),(I6 4),(I6 4)]) (fun _ => View.no) (fun x => match x with | 0 => [(bK b0 [(.int .u8 0),(.int .u8 0),(.int .u8 0),(.int .u8 0)] 5)] | 1 => [(bK b0 [(.int .u8 (IntKind.u8.wrap (((n : Int)).fdiv (2 ^ 24)))),(.int .u8 0),(.int .u8 0),(.int .u8 0)] 5)] | 2 => [(bK b0 [(.int .u8 (IntKind.u8.wrap (((n : Int)).fdiv (2 ^ 24)))),(.int .u8 (IntKind.u8.wrap (((n : Int)).fdiv (2 ^ 16)))),(.int .u8 0),(.int .u8 0)] 5)] | 3 => [(bK b0 [(.int .u8 (IntKind.u8.wrap (((n : Int)).fdiv (2 ^ 24)))),(.int .u8 (IntKind.u8.wrap (((n : Int)).fdiv (2 ^ 16)))),(.int .u8 (IntKind.u8.wrap (((n : Int)).fdiv (2 ^ 8)))),(.int .u8 0)] 5)] | _ => [(bK b0 [(.int .u8 (IntKind.u8.wrap (((n : Int)).fdiv (2 ^ 24)))),(.int .u8 (IntKind.u8.wrap (((n : Int)).fdiv (2 ^ 16)))),(.int .u8 (IntKind.u8.wrap (((n : Int)).fdiv (2 ^ 8)))),(.int .u8 (IntKind.u8.wrap (((n : Int)).fdiv (2 ^ 0))))] 5)]) (fun x => x ≤ 4) (fun x => 4 - x) 0 oW ?_)))))))))))
 rintro x hx
 rcases (by omega : x = 0 ∨ x = 1 ∨ x = 2 ∨ x = 3 ∨ x = 4) with rfl | rfl | rfl | rfl | rfl
 ·
  refine zQ 1 (zn (zs (dF (zk (zs (aB (zQ 2 (zn (zr (zq 4 (eE 17 (U6 (IntKind.u64.wrap (n : Int))) (N6 n) (congrArg (Value.int .u64) hw) ?_)))))))))))
  refine zq 8 (aY 0 b0 (zn (zr (zq 2 (zn ?_)))))
  refine nx 1 oW (by show 4 - 1 < 4 - 0; omega)
 ·
  refine zQ 1 (zn (zs (dF (zk (zs (aB (zQ 2 (zn (zr (zq 4 (eE 17 (U6 (IntKind.u64.wrap (n : Int))) (N6 n) (congrArg (Value.int .u64) hw) ?_)))))))))))
  refine zq 8 (aY 0 b0 (zn (zr (zq 2 (zn ?_)))))
  refine nx 2 oW (by show 4 - 2 < 4 - 1; omega)
 ·
  refine zQ 1 (zn (zs (dF (zk (zs (aB (zQ 2 (zn (zr (zq 4 (eE 17 (U6 (IntKind.u64.wrap (n : Int))) (N6 n) (congrArg (Value.int .u64) hw) ?_)))))))))))
  refine zq 8 (aY 0 b0 (zn (zr (zq 2 (zn ?_)))))
  refine nx 3 oW (by show 4 - 3 < 4 - 2; omega)
 ·
  refine zQ 1 (zn (zs (dF (zk (zs (aB (zQ 2 (zn (zr (zq 4 (eE 17 (U6 (IntKind.u64.wrap (n : Int))) (N6 n) (congrArg (Value.int .u64) hw) ?_)))))))))))
  refine zq 8 (aY 0 b0 (zn (zr (zq 2 (zn ?_)))))
  refine nx 4 oW (by show 4 - 4 < 4 - 3; omega)
 ·
  refine zQ 1 (zn (zs (dE (aU (zB [0,1,0] [(b0,4)] (zn (aA (aH [4] [(St [UInt8.ofNat ((IntKind.u8.wrap (((n : Int)).fdiv (2 ^ 24))) : Int).toNat,UInt8.ofNat ((IntKind.u8.wrap (((n : Int)).fdiv (2 ^ 16))) : Int).toNat,UInt8.ofNat ((IntKind.u8.wrap (((n : Int)).fdiv (2 ^ 8))) : Int).toNat,UInt8.ofNat ((IntKind.u8.wrap (((n : Int)).fdiv (2 ^ 0))) : Int).toNat])] (fun W' hM => ?_)))))))))
  refine ⟨?_,hM.below⟩
  show Ending.returned (Value.string (B [shf n 24,shf n 16,shf n 8,shf n 0])) = _
  rw [lJ n 24 3 (by decide),lJ n 16 2 (by decide),lJ n 8 1 (by decide),lJ n 0 0 (by decide)]
  rfl
theorem aEN (n : Nat) (w : World) (h : n < 2 ^ 64) : CP 197 #[.int .u64 (n : Int), .int .i64 8] w (Ret (.string (B (Itm.dg n 8))) w) := by
 have hw : IntKind.u64.wrap (n : Int) = (n : Int) := u64_in oW oW
 refine dK 28 Tryz.func197 ?_
 refine zQ 1 (zn (zQ 1 (cJ (fun b0 => (zq 1 (zn (zs (zQ 3 (zn (aB (gX (α := Nat) (fun x => match x with | 0 => [0,1,4,5,10,11].zip [(N6 n),(I6 8),(St []),(Sl b0 0 8 8),(I6 8),(I6 0)] | 1 => [0,1,4,5,10,11].zip [(N6 n),(I6 8),(St []),(Sl b0 0 8 8),(I6 8),(I6 1)] | 2 => [0,1,4,5,10,11].zip [(N6 n),(I6 8),(St []),(Sl b0 0 8 8),(I6 8),(I6 2)] | 3 => [0,1,4,5,10,11].zip [(N6 n),(I6 8),(St []),(Sl b0 0 8 8),(I6 8),(I6 3)] | 4 => [0,1,4,5,10,11].zip [(N6 n),(I6 8),(St []),(Sl b0 0 8 8),(I6 8),(I6 4)] | 5 => [0,1,4,5,10,11].zip [(N6 n),(I6 8),(St []),(Sl b0 0 8 8),(I6 8),(I6 5)] | 6 => [0,1,4,5,10,11].zip [(N6 n),(I6 8),(St []),(Sl b0 0 8 8),(I6 8),(I6 6)] | 7 => [0,1,4,5,10,11].zip [(N6 n),(I6 8),(St []),(Sl b0 0 8 8),(I6 8),(I6 7)] | _ => [0,1,4,5,10,11].zip [(N6 n),(I6 8),(St []),(Sl b0 0 8 8),(I6 8),(I6 8)]) (fun _ => View.no) (fun x => match x with | 0 => [(bK b0 [(.int .u8 0),(.int .u8 0),(.int .u8 0),(.int .u8 0),(.int .u8 0),(.int .u8 0),(.int .u8 0),(.int .u8 0)] 5)] | 1 => [(bK b0 [(.int .u8 (IntKind.u8.wrap (((n : Int)).fdiv (2 ^ 56)))),(.int .u8 0),(.int .u8 0),(.int .u8 0),(.int .u8 0),(.int .u8 0),(.int .u8 0),(.int .u8 0)] 5)] | 2 => [(bK b0 [(.int .u8 (IntKind.u8.wrap (((n : Int)).fdiv (2 ^ 56)))),(.int .u8 (IntKind.u8.wrap (((n : Int)).fdiv (2 ^ 48)))),(.int .u8 0),(.int .u8 0),(.int .u8 0),(.int .u8 0),(.int .u8 0),(.int .u8 0)] 5)] | 3 => [(bK b0 [(.int .u8 (IntKind.u8.wrap (((n : Int)).fdiv (2 ^ 56)))),(.int .u8 (IntKind.u8.wrap (((n : Int)).fdiv (2 ^ 48)))),(.int .u8 (IntKind.u8.wrap (((n : Int)).fdiv (2 ^ 40)))),(.int .u8 0),(.int .u8 0),(.int .u8 0),(.int .u8 0),(.int .u8 0)] 5)] | 4 => [(bK b0 [(.int .u8 (IntKind.u8.wrap (((n : Int)).fdiv (2 ^ 56)))),(.int .u8 (IntKind.u8.wrap (((n : Int)).fdiv (2 ^ 48)))),(.int .u8 (IntKind.u8.wrap (((n : Int)).fdiv (2 ^ 40)))),(.int .u8 (IntKind.u8.wrap (((n : Int)).fdiv (2 ^ 32)))),(.int .u8 0),(.int .u8 0),(.int .u8 0),(.int .u8 0)] 5)] | 5 => [(bK b0 [(.int .u8 (IntKind.u8.wrap (((n : Int)).fdiv (2 ^ 56)))),(.int .u8 (IntKind.u8.wrap (((n : Int)).fdiv (2 ^ 48)))),(.int .u8 (IntKind.u8.wrap (((n : Int)).fdiv (2 ^ 40)))),(.int .u8 (IntKind.u8.wrap (((n : Int)).fdiv (2 ^ 32)))),(.int .u8 (IntKind.u8.wrap (((n : Int)).fdiv (2 ^ 24)))),(.int .u8 0),(.int .u8 0),(.int .u8 0)] 5)] | 6 => [(bK b0 [(.int .u8 (IntKind.u8.wrap (((n : Int)).fdiv (2 ^ 56)))),(.int .u8 (IntKind.u8.wrap (((n : Int)).fdiv (2 ^ 48)))),(.int .u8 (IntKind.u8.wrap (((n : Int)).fdiv (2 ^ 40)))),(.int .u8 (IntKind.u8.wrap (((n : Int)).fdiv (2 ^ 32)))),(.int .u8 (IntKind.u8.wrap (((n : Int)).fdiv (2 ^ 24)))),(.int .u8 (IntKind.u8.wrap (((n : Int)).fdiv (2 ^ 16)))),(.int .u8 0),(.int .u8 0)] 5)] | 7 => [(bK b0 [(.int .u8 (IntKind.u8.wrap (((n : Int)).fdiv (2 ^ 56)))),(.int .u8 (IntKind.u8.wrap (((n : Int)).fdiv (2 ^ 48)))),(.int .u8 (IntKind.u8.wrap (((n : Int)).fdiv (2 ^ 40)))),(.int .u8 (IntKind.u8.wrap (((n : Int)).fdiv (2 ^ 32)))),(.int .u8 (IntKind.u8.wrap (((n : Int)).fdiv (2 ^ 24)))),(.int .u8 (IntKind.u8.wrap (((n : Int)).fdiv (2 ^ 16)))),(.int .u8 (IntKind.u8.wrap (((n : Int)).fdiv (2 ^ 8)))),(.int .u8 0)] 5)] | _ => [(bK b0 [(.int .u8 (IntKind.u8.wrap (((n : Int)).fdiv (2 ^ 56)))),(.int .u8 (IntKind.u8.wrap (((n : Int)).fdiv (2 ^ 48)))),(.int .u8 (IntKind.u8.wrap (((n : Int)).fdiv (2 ^ 40)))),(.int .u8 (IntKind.u8.wrap (((n : Int)).fdiv (2 ^ 32)))),(.int .u8 (IntKind.u8.wrap (((n : Int)).fdiv (2 ^ 24)))),(.int .u8 (IntKind.u8.wrap (((n : Int)).fdiv (2 ^ 16)))),(.int .u8 (IntKind.u8.wrap (((n : Int)).fdiv (2 ^ 8)))),(.int .u8 (IntKind.u8.wrap (((n : Int)).fdiv (2 ^ 0))))] 5)]) (fun x => x ≤ 8) (fun x => 8 - x) 0 oW ?_)))))))))))
 rintro x hx
 rcases (by omega : x = 0 ∨ x = 1 ∨ x = 2 ∨ x = 3 ∨ x = 4 ∨ x = 5 ∨ x = 6 ∨ x = 7 ∨ x = 8) with rfl | rfl | rfl | rfl | rfl | rfl | rfl | rfl | rfl
 ·
  refine zQ 1 (zn (zs (dF (zk (zs (aB (zQ 2 (zn (zr (zq 11 (aY 0 b0 (zn (zr (zq 2 (zn ?_)))))))))))))))
  refine nx 1 oW (by show 8 - 1 < 8 - 0; omega)
 ·
  refine zQ 1 (zn (zs (dF (zk (zs (aB (zQ 2 (zn (zr (zq 11 (aY 0 b0 (zn (zr (zq 2 (zn ?_)))))))))))))))
  refine nx 2 oW (by show 8 - 2 < 8 - 1; omega)
 ·
  refine zQ 1 (zn (zs (dF (zk (zs (aB (zQ 2 (zn (zr (zq 11 (aY 0 b0 (zn (zr (zq 2 (zn ?_)))))))))))))))
  refine nx 3 oW (by show 8 - 3 < 8 - 2; omega)
 ·
  refine zQ 1 (zn (zs (dF (zk (zs (aB (zQ 2 (zn (zr (zq 11 (aY 0 b0 (zn (zr (zq 2 (zn ?_)))))))))))))))
  refine nx 4 oW (by show 8 - 4 < 8 - 3; omega)
 ·
  refine zQ 1 (zn (zs (dF (zk (zs (aB (zQ 2 (zn (zr (zq 11 (aY 0 b0 (zn (zr (zq 2 (zn ?_)))))))))))))))
  refine nx 5 oW (by show 8 - 5 < 8 - 4; omega)
 ·
  refine zQ 1 (zn (zs (dF (zk (zs (aB (zQ 2 (zn (zr (zq 11 (aY 0 b0 (zn (zr (zq 2 (zn ?_)))))))))))))))
  refine nx 6 oW (by show 8 - 6 < 8 - 5; omega)
 ·
  refine zQ 1 (zn (zs (dF (zk (zs (aB (zQ 2 (zn (zr (zq 11 (aY 0 b0 (zn (zr (zq 2 (zn ?_)))))))))))))))
  refine nx 7 oW (by show 8 - 7 < 8 - 6; omega)
 ·
  refine zQ 1 (zn (zs (dF (zk (zs (aB (zQ 2 (zn (zr (zq 11 (aY 0 b0 (zn (zr (zq 2 (zn ?_)))))))))))))))
  refine nx 8 oW (by show 8 - 8 < 8 - 7; omega)
 ·
  refine zQ 1 (zn (zs (dE (aU (zB [0,1,0] [(b0,8)] (zn (aA (aH [4] [(St [UInt8.ofNat ((IntKind.u8.wrap (((n : Int)).fdiv (2 ^ 56))) : Int).toNat,UInt8.ofNat ((IntKind.u8.wrap (((n : Int)).fdiv (2 ^ 48))) : Int).toNat,UInt8.ofNat ((IntKind.u8.wrap (((n : Int)).fdiv (2 ^ 40))) : Int).toNat,UInt8.ofNat ((IntKind.u8.wrap (((n : Int)).fdiv (2 ^ 32))) : Int).toNat,UInt8.ofNat ((IntKind.u8.wrap (((n : Int)).fdiv (2 ^ 24))) : Int).toNat,UInt8.ofNat ((IntKind.u8.wrap (((n : Int)).fdiv (2 ^ 16))) : Int).toNat,UInt8.ofNat ((IntKind.u8.wrap (((n : Int)).fdiv (2 ^ 8))) : Int).toNat,UInt8.ofNat ((IntKind.u8.wrap (((n : Int)).fdiv (2 ^ 0))) : Int).toNat])] (fun W' hM => ?_)))))))))
  refine ⟨?_,hM.below⟩
  show Ending.returned (Value.string (B [shf n 56,shf n 48,shf n 40,shf n 32,shf n 24,shf n 16,shf n 8,shf n 0])) = _
  rw [lJ n 56 7 (by decide),lJ n 48 6 (by decide),lJ n 40 5 (by decide),lJ n 32 4 (by decide),lJ n 24 3 (by decide),lJ n 16 2 (by decide),lJ n 8 1 (by decide),lJ n 0 0 (by decide)]
  rfl
theorem u8_in {x : Int} (h0 : 0 ≤ x) (h1 : x < 256) : IntKind.u8.wrap x = x := by
 simp [IntKind.wrap, IntKind.bits, IntKind.signed]
 omega
theorem u16_in {x : Int} (h0 : 0 ≤ x) (h1 : x < 65536) : IntKind.u16.wrap x = x := by
 simp [IntKind.wrap, IntKind.bits, IntKind.signed]
 omega
theorem u32_in {x : Int} (h0 : 0 ≤ x) (h1 : x < 4294967296) : IntKind.u32.wrap x = x := by
 simp [IntKind.wrap, IntKind.bits, IntKind.signed]
 omega
theorem aMr : ∀ m : Fin 8, ∀ c : Fin 32, UInt8.ofNat (orI .u8 (IntKind.u8.wrap ((m.val : Int) * 2 ^ 5)) (c.val : Int)).toNat = UInt8.ofNat (32 * m.val + c.val) := by decide +kernel
theorem orb (m c : Nat) (hm : m ≤ 7) (hc : c < 32) : UInt8.ofNat (orI .u8 (IntKind.u8.wrap ((m : Int) * 2 ^ 5)) (c : Int)).toNat = UInt8.ofNat (32 * m + c) := aMr ⟨m, by omega⟩ ⟨c, hc⟩
set_option maxRecDepth 100000 in
theorem fQ (m n : Nat) (w : World) (hm : m ≤ 7) (hn : n < W64) : CP 144 #[.int .i64 (m : Int), .int .u64 (n : Int)] w (Ret (.string (B (Itm.aD m n))) w) := by
 have hm0 : decide ((m : Int) < 0) = false := decide_eq_false oW
 have hm7 : decide ((m : Int) > 7) = false := decide_eq_false oW
 unfold W64 at hn
 have d1 := Itm.dT n 1
 have d2 := Itm.dT n 2
 have d4 := Itm.dT n 4
 have d8 := Itm.dT n 8
 refine dK 64 Tryz.func144 ?_
 refine zQ 1 (zn (zs (zQ 3 (eE 8 (.bool (decide ((m : Int) < 0))) (.bool false) (congrArg Value.bool hm0) ?_))))
 refine zq 3 (zn (eS (decide ((m : Int) > 7)) hm7 ?_))
 refine zk (zQ 2 (eV 13 ((m : Int) * 2 ^ 5) (zq 2 (zn (zs (aB (zQ 3 (zn (cD (decide ((n : Int) < 24)) (fun h0 => ?_) (fun h0 => ?_))))))))))
 ·
  have h0d := of_decide_eq_true h0
  refine zQ 3 (eE 20 (.int .u8 (IntKind.u8.wrap (n : Int))) (.int .u8 (n : Int)) (congrArg (Value.int .u8) (u8_in oW oW)) ?_)
  refine zq 1 (cJ (fun b0 => (cU [1,0] [(b0,1)] (zn (aA (aH [4] [(St [UInt8.ofNat ((orI .u8 (IntKind.u8.wrap ((m : Int) * 2 ^ 5)) (n : Int)) : Int).toNat])] (fun W' hM => ?_)))))))
  refine ⟨?_,hM.below⟩
  show Ending.returned (Value.string (B [UInt8.ofNat ((orI .u8 (IntKind.u8.wrap ((m : Int) * 2 ^ 5)) (n : Int)) : Int).toNat])) = _
  rw [Itm.aD,if_pos oW,orb m n hm oW]
  try rfl
 ·
  have h0d := of_decide_eq_false h0
  refine zQ 3 (zn (cD (decide ((n : Int) < 256)) (fun h1 => ?_) (fun h1 => ?_)))
  ·
   have h1d := of_decide_eq_true h1
   refine zs ?_
   refine gU 3 [0,0,1,1,0,1,1] [] [.blk (fun r => (Sl r 0 1 1)) (oK [(.int .u8 (orI .u8 (IntKind.u8.wrap ((m : Int) * 2 ^ 5)) 24))] 5),.val (St [UInt8.ofNat ((orI .u8 (IntKind.u8.wrap ((m : Int) * 2 ^ 5)) 24) : Int).toNat]),.val (.int .u8 (n : Int)),.val (St (Itm.dg n 1))] ⟨?_,?_,?_,?_,trivial⟩ ?_
   · exact vN
   · exact vB 2 1 29 (fun r => (Sl r 0 1 1)) [(.int .u8 (orI .u8 (IntKind.u8.wrap ((m : Int) * 2 ^ 5)) 24))] 5
   · exact vE (.int .u8 (IntKind.u8.wrap (n : Int))) (congrArg (Value.int .u8) (u8_in oW oW))
   · exact vC 194 #[(.int .u8 (n : Int)),(I6 1)] (fun W hM => aEQ n W oW)
   refine cH (St ([UInt8.ofNat ((orI .u8 (IntKind.u8.wrap ((m : Int) * 2 ^ 5)) 24) : Int).toNat] ++ (Itm.dg n 1))) (cE _ _ _ _ rfl [UInt8.ofNat ((orI .u8 (IntKind.u8.wrap ((m : Int) * 2 ^ 5)) 24) : Int).toNat] (Itm.dg n 1) kR kR oA) ?_
   refine zq 1 (zn (aA (aH [4] [(St ([UInt8.ofNat ((orI .u8 (IntKind.u8.wrap ((m : Int) * 2 ^ 5)) 24) : Int).toNat] ++ (Itm.dg n 1)))] (fun W' hM => ?_))))
   refine ⟨?_,hM.below⟩
   show Ending.returned (Value.string (B ([UInt8.ofNat ((orI .u8 (IntKind.u8.wrap ((m : Int) * 2 ^ 5)) 24) : Int).toNat] ++ (Itm.dg n 1)))) = _
   rw [Itm.aD,if_neg oW,if_pos oW,(show UInt8.ofNat (orI .u8 (IntKind.u8.wrap ((m : Int) * 2 ^ 5)) 24).toNat = UInt8.ofNat (32 * m + 24) from orb m 24 hm oW)]
   try rfl
  ·
   have h1d := of_decide_eq_false h1
   refine zQ 3 (zn (cD (decide ((n : Int) < 65536)) (fun h2 => ?_) (fun h2 => ?_)))
   ·
    have h2d := of_decide_eq_true h2
    refine zs ?_
    refine gU 3 [0,0,1,1,0,1,1] [] [.blk (fun r => (Sl r 0 1 1)) (oK [(.int .u8 (orI .u8 (IntKind.u8.wrap ((m : Int) * 2 ^ 5)) 25))] 5),.val (St [UInt8.ofNat ((orI .u8 (IntKind.u8.wrap ((m : Int) * 2 ^ 5)) 25) : Int).toNat]),.val (.int .u16 (n : Int)),.val (St (Itm.dg n 2))] ⟨?_,?_,?_,?_,trivial⟩ ?_
    · exact vN
    · exact vB 2 1 40 (fun r => (Sl r 0 1 1)) [(.int .u8 (orI .u8 (IntKind.u8.wrap ((m : Int) * 2 ^ 5)) 25))] 5
    · exact vE (.int .u16 (IntKind.u16.wrap (n : Int))) (congrArg (Value.int .u16) (u16_in oW oW))
    · exact vC 195 #[(.int .u16 (n : Int)),(I6 2)] (fun W hM => aEP n W oW)
    refine cH (St ([UInt8.ofNat ((orI .u8 (IntKind.u8.wrap ((m : Int) * 2 ^ 5)) 25) : Int).toNat] ++ (Itm.dg n 2))) (cE _ _ _ _ rfl [UInt8.ofNat ((orI .u8 (IntKind.u8.wrap ((m : Int) * 2 ^ 5)) 25) : Int).toNat] (Itm.dg n 2) kR kR oA) ?_
    refine zq 1 (zn (aA (aH [4] [(St ([UInt8.ofNat ((orI .u8 (IntKind.u8.wrap ((m : Int) * 2 ^ 5)) 25) : Int).toNat] ++ (Itm.dg n 2)))] (fun W' hM => ?_))))
    refine ⟨?_,hM.below⟩
    show Ending.returned (Value.string (B ([UInt8.ofNat ((orI .u8 (IntKind.u8.wrap ((m : Int) * 2 ^ 5)) 25) : Int).toNat] ++ (Itm.dg n 2)))) = _
    rw [Itm.aD,if_neg oW,if_neg oW,if_pos oW,(show UInt8.ofNat (orI .u8 (IntKind.u8.wrap ((m : Int) * 2 ^ 5)) 25).toNat = UInt8.ofNat (32 * m + 25) from orb m 25 hm oW)]
    try rfl
   ·
    have h2d := of_decide_eq_false h2
    refine zQ 3 (zn (cD (decide ((n : Int) < 4294967296)) (fun h3 => ?_) (fun h3 => ?_)))
    ·
     have h3d := of_decide_eq_true h3
     refine zs ?_
     refine gU 3 [0,0,1,1,0,1,1] [] [.blk (fun r => (Sl r 0 1 1)) (oK [(.int .u8 (orI .u8 (IntKind.u8.wrap ((m : Int) * 2 ^ 5)) 26))] 5),.val (St [UInt8.ofNat ((orI .u8 (IntKind.u8.wrap ((m : Int) * 2 ^ 5)) 26) : Int).toNat]),.val (.int .u32 (n : Int)),.val (St (Itm.dg n 4))] ⟨?_,?_,?_,?_,trivial⟩ ?_
     · exact vN
     · exact vB 2 1 51 (fun r => (Sl r 0 1 1)) [(.int .u8 (orI .u8 (IntKind.u8.wrap ((m : Int) * 2 ^ 5)) 26))] 5
     · exact vE (.int .u32 (IntKind.u32.wrap (n : Int))) (congrArg (Value.int .u32) (u32_in oW oW))
     · exact vC 196 #[(.int .u32 (n : Int)),(I6 4)] (fun W hM => aEO n W oW)
     refine cH (St ([UInt8.ofNat ((orI .u8 (IntKind.u8.wrap ((m : Int) * 2 ^ 5)) 26) : Int).toNat] ++ (Itm.dg n 4))) (cE _ _ _ _ rfl [UInt8.ofNat ((orI .u8 (IntKind.u8.wrap ((m : Int) * 2 ^ 5)) 26) : Int).toNat] (Itm.dg n 4) kR kR oA) ?_
     refine zq 1 (zn (aA (aH [4] [(St ([UInt8.ofNat ((orI .u8 (IntKind.u8.wrap ((m : Int) * 2 ^ 5)) 26) : Int).toNat] ++ (Itm.dg n 4)))] (fun W' hM => ?_))))
     refine ⟨?_,hM.below⟩
     show Ending.returned (Value.string (B ([UInt8.ofNat ((orI .u8 (IntKind.u8.wrap ((m : Int) * 2 ^ 5)) 26) : Int).toNat] ++ (Itm.dg n 4)))) = _
     rw [Itm.aD,if_neg oW,if_neg oW,if_neg oW,if_pos oW,(show UInt8.ofNat (orI .u8 (IntKind.u8.wrap ((m : Int) * 2 ^ 5)) 26).toNat = UInt8.ofNat (32 * m + 26) from orb m 26 hm oW)]
     try rfl
    ·
     have h3d := of_decide_eq_false h3
     refine zk (zs ?_)
     refine gU 3 [0,0,1,1,0,1] [] [.blk (fun r => (Sl r 0 1 1)) (oK [(.int .u8 (orI .u8 (IntKind.u8.wrap ((m : Int) * 2 ^ 5)) 27))] 5),.val (St [UInt8.ofNat ((orI .u8 (IntKind.u8.wrap ((m : Int) * 2 ^ 5)) 27) : Int).toNat]),.val (St (Itm.dg n 8))] ⟨?_,?_,?_,trivial⟩ ?_
     · exact vN
     · exact vB 2 1 59 (fun r => (Sl r 0 1 1)) [(.int .u8 (orI .u8 (IntKind.u8.wrap ((m : Int) * 2 ^ 5)) 27))] 5
     · exact vC 197 #[(N6 n),(I6 8)] (fun W hM => aEN n W oW)
     refine cH (St ([UInt8.ofNat ((orI .u8 (IntKind.u8.wrap ((m : Int) * 2 ^ 5)) 27) : Int).toNat] ++ (Itm.dg n 8))) (cE _ _ _ _ rfl [UInt8.ofNat ((orI .u8 (IntKind.u8.wrap ((m : Int) * 2 ^ 5)) 27) : Int).toNat] (Itm.dg n 8) kR kR oA) ?_
     refine zq 1 (zn (aA (aH [4] [(St ([UInt8.ofNat ((orI .u8 (IntKind.u8.wrap ((m : Int) * 2 ^ 5)) 27) : Int).toNat] ++ (Itm.dg n 8)))] (fun W' hM => ?_))))
     refine ⟨?_,hM.below⟩
     show Ending.returned (Value.string (B ([UInt8.ofNat ((orI .u8 (IntKind.u8.wrap ((m : Int) * 2 ^ 5)) 27) : Int).toNat] ++ (Itm.dg n 8)))) = _
     rw [Itm.aD,if_neg oW,if_neg oW,if_neg oW,if_neg oW,(show UInt8.ofNat (orI .u8 (IntKind.u8.wrap ((m : Int) * 2 ^ 5)) 27).toNat = UInt8.ofNat (32 * m + 27) from orb m 27 hm oW)]
     try rfl
def aCx (k : IntKind) (y x : Int) : Int := if gC k x 1 == 1 then aJ8 k (x.fdiv (2 ^ 1)) y else x.fdiv (2 ^ 1)
def oS (k : IntKind) (y : Int) : Nat → Int → Int
 | 0, x => x
 | n + 1, x => oS k y n (aCx k y x)
def aDn (k : IntKind) (y x : Int) (c : UInt8) : Int := oS k y 8 (aJ8 k x (k.wrap (c.toNat : Int)))
def aHN (k : IntKind) (y x : Int) (l : List UInt8) : Int := l.foldl (aDn k y) x
theorem qM {k : IntKind} {y x : Int} {i : Nat} (h : i < 8) : oS k y (8 - i) x = oS k y (8 - (i + 1)) (aCx k y x) := by
 rw [show 8 - i = (8 - (i + 1)) + 1 by omega, oS]
theorem aEk {k : IntKind} {y x : Int} {l : List UInt8} {i : Nat} {c : UInt8} (h : l[i]? = some c) : aHN k y x (l.drop i) = aHN k y (aDn k y x c) (l.drop (i + 1)) := by
 obtain ⟨hl, rfl⟩ := List.getElem?_eq_some_iff.1 h
 rw [List.drop_eq_getElem_cons hl]
 rfl
theorem aDk (x y : Int) (l : List UInt8) (w : World) (hl : l.length ≤ R47) : CP 267 #[.int .u16 x, .int .u16 y, .string (B l)] w (Ret (.int .u16 (aHN .u16 y x l)) w) := by
 unfold R47 at hl
 obtain ⟨x0,hx0⟩ : ∃ x0,x0 = x := ⟨_,rfl⟩
 rw [← hx0]
 refine dK 34 Tryz.func267 ?_
 refine zQ 1 (zn (zs (zQ 1 ?_)))
 refine aCR 9 160 5 (.tmp 9) rfl l kR kR kR kR kR kR (fun b0 c0 V0 hV0 hB0 hC0 => ?_)
 have hY0 := aFH.of hB0 (by first | assumption | omega)
 refine zq 2 (zn (aB (gX (α := Nat × Int) (fun x => [0,1,6,10,11,12].zip [(.int .u16 x.2),(.int .u16 y),(.int .u16 0),(Sl b0 0 l.length c0),(L6 l.length),(L6 x.1)]) (fun x => V0) (fun x => []) (fun x => x.1 ≤ l.length ∧ aHN .u16 y x.2 (l.drop x.1) = aHN .u16 y x0 l) (fun x => l.length - x.1) (0,x0) ?_ ?_)))
 · exact ⟨by simp,rfl⟩
 intro x hx
 obtain ⟨hx1,hx2⟩ := hx
 refine zQ 1 (zn (zs (cD (decide ((x.1 : Int) < (l.length : Int))) (fun h0 => ?_) (fun h0 => ?_))))
 ·
  have h0d := of_decide_eq_true h0
  refine zk (zs (aB (zs (zr ?_))))
  obtain ⟨y1,hy1⟩ : ∃ y,(l)[x.1]? = some y := ⟨(l)[x.1]'oW,List.getElem?_eq_getElem _⟩
  obtain ⟨b1,f1,e1,hU1⟩ := hY0.one hy1
  cases e1
  refine cH (Pt b0 (0 + x.1)) (fW _ 5 _ _ rfl b0 0 l.length c0 x.1 .i64 kR kR (by first | assumption | omega) kR kR) ?_
  refine zV b0 (0 + x.1) (.int .u8 (y1.toNat : Int)) hU1 5 (.tmp 14) _ Tryz.underlying5 rfl ?_
  refine zq 1 (zn (zQ 5 (zn (zQ 1 (zn (aB (gX (α := Nat × Int) (fun z => [0,1,6,8,10,11,12,13,14,15,16,17,18,19,20].zip [(.int .u16 z.2),(.int .u16 y),(.int .u16 0),(.int .u8 (y1.toNat : Int)),(Sl b0 0 l.length c0),(L6 l.length),(L6 x.1),(.bool (decide ((x.1 : Int) < (l.length : Int)))),(Pt b0 (0 + x.1)),(.int .u8 (y1.toNat : Int)),(.int .u16 x.2),(.int .u8 (y1.toNat : Int)),(.int .u16 (IntKind.u16.wrap (y1.toNat : Int))),(.int .u16 (aJ8 .u16 x.2 (IntKind.u16.wrap (y1.toNat : Int)))),(L6 z.1)]) (fun z => V0) (fun z => []) (fun z => z.1 ≤ 8 ∧ oS .u16 y (8 - z.1) z.2 = oS .u16 y 8 (aJ8 .u16 x.2 (IntKind.u16.wrap (y1.toNat : Int)))) (fun z => 8 - z.1) (0,(aJ8 .u16 x.2 (IntKind.u16.wrap (y1.toNat : Int)))) ?_ ?_)))))))
  · exact ⟨by simp,rfl⟩
  intro z hz
  obtain ⟨hz1,hz2⟩ := hz
  refine zQ 1 (zn (zs (cD (decide ((z.1 : Int) < 8)) (fun h1 => ?_) (fun h1 => ?_))))
  ·
   have h1d := of_decide_eq_true h1
   refine zk (zs (aB (zQ 3 (zn (cD ((gC .u16 z.2 1) == 1) (fun h2 => ?_) (fun h2 => ?_))))))
   ·
    have h2d := eq_of_beq h2
    refine zr (zq 5 (zn (zr (zq 1 (eV 31 ((z.1 : Int) + 1) (zq 1 (zn ?_)))))))
    refine nx (z.1 + 1,(aJ8 .u16 ((z.2).fdiv (2 ^ 1)) y)) ?_ ?_
    · exact ⟨by show z.1 + 1 ≤ 8; omega,by rw [← hz2,qM (i := z.1) (x := z.2) oW,aCx]; simp only [h2,if_true,if_false,Bool.false_eq_true]⟩
    · show 8 - (z.1 + 1) < 8 - z.1; omega
   ·
    have h2d := beq_eq_false_iff_ne.1 h2
    refine zr (zq 3 (zn (zr (zq 1 (eV 31 ((z.1 : Int) + 1) (zq 1 (zn ?_)))))))
    refine nx (z.1 + 1,((z.2).fdiv (2 ^ 1))) ?_ ?_
    · exact ⟨by show z.1 + 1 ≤ 8; omega,by rw [← hz2,qM (i := z.1) (x := z.2) oW,aCx]; simp only [h2,if_true,if_false,Bool.false_eq_true]⟩
    · show 8 - (z.1 + 1) < 8 - z.1; omega
  ·
   have h1d := of_decide_eq_false h1
   refine aU (zr (zq 1 (eV 32 ((x.1 : Int) + 1) (zq 1 (zn ?_)))))
   refine nx (x.1 + 1,z.2) ?_ ?_
   · exact ⟨by show x.1 + 1 ≤ _; omega,by rw [← hx2,aEk hy1,aDn,← hz2,show 8 - z.1 = 0 by omega]; rfl⟩
   · show l.length - (x.1 + 1) < l.length - x.1; omega
 ·
  have h0d := of_decide_eq_false h0
  refine aU (zQ 2 (zn (aA (aH [6] [(.int .u16 x.2)] (fun W' hM => ?_)))))
  exact ⟨by rw [show x.1 = l.length by omega,List.drop_length] at hx2; rw [← hx2]; rfl,hM.below⟩
theorem aDj (x y : Int) (l : List UInt8) (w : World) (hl : l.length ≤ R47) : CP 268 #[.int .u32 x, .int .u32 y, .string (B l)] w (Ret (.int .u32 (aHN .u32 y x l)) w) := by
 unfold R47 at hl
 obtain ⟨x0,hx0⟩ : ∃ x0,x0 = x := ⟨_,rfl⟩
 rw [← hx0]
 refine dK 34 Tryz.func268 ?_
 refine zQ 1 (zn (zs (zQ 1 ?_)))
 refine aCR 9 160 5 (.tmp 9) rfl l kR kR kR kR kR kR (fun b0 c0 V0 hV0 hB0 hC0 => ?_)
 have hY0 := aFH.of hB0 (by first | assumption | omega)
 refine zq 2 (zn (aB (gX (α := Nat × Int) (fun x => [0,1,6,10,11,12].zip [(.int .u32 x.2),(.int .u32 y),(.int .u32 0),(Sl b0 0 l.length c0),(L6 l.length),(L6 x.1)]) (fun x => V0) (fun x => []) (fun x => x.1 ≤ l.length ∧ aHN .u32 y x.2 (l.drop x.1) = aHN .u32 y x0 l) (fun x => l.length - x.1) (0,x0) ?_ ?_)))
 · exact ⟨by simp,rfl⟩
 intro x hx
 obtain ⟨hx1,hx2⟩ := hx
 refine zQ 1 (zn (zs (cD (decide ((x.1 : Int) < (l.length : Int))) (fun h0 => ?_) (fun h0 => ?_))))
 ·
  have h0d := of_decide_eq_true h0
  refine zk (zs (aB (zs (zr ?_))))
  obtain ⟨y1,hy1⟩ : ∃ y,(l)[x.1]? = some y := ⟨(l)[x.1]'oW,List.getElem?_eq_getElem _⟩
  obtain ⟨b1,f1,e1,hU1⟩ := hY0.one hy1
  cases e1
  refine cH (Pt b0 (0 + x.1)) (fW _ 5 _ _ rfl b0 0 l.length c0 x.1 .i64 kR kR (by first | assumption | omega) kR kR) ?_
  refine zV b0 (0 + x.1) (.int .u8 (y1.toNat : Int)) hU1 5 (.tmp 14) _ Tryz.underlying5 rfl ?_
  refine zq 1 (zn (zQ 5 (zn (zQ 1 (zn (aB (gX (α := Nat × Int) (fun z => [0,1,6,8,10,11,12,13,14,15,16,17,18,19,20].zip [(.int .u32 z.2),(.int .u32 y),(.int .u32 0),(.int .u8 (y1.toNat : Int)),(Sl b0 0 l.length c0),(L6 l.length),(L6 x.1),(.bool (decide ((x.1 : Int) < (l.length : Int)))),(Pt b0 (0 + x.1)),(.int .u8 (y1.toNat : Int)),(.int .u32 x.2),(.int .u8 (y1.toNat : Int)),(.int .u32 (IntKind.u32.wrap (y1.toNat : Int))),(.int .u32 (aJ8 .u32 x.2 (IntKind.u32.wrap (y1.toNat : Int)))),(L6 z.1)]) (fun z => V0) (fun z => []) (fun z => z.1 ≤ 8 ∧ oS .u32 y (8 - z.1) z.2 = oS .u32 y 8 (aJ8 .u32 x.2 (IntKind.u32.wrap (y1.toNat : Int)))) (fun z => 8 - z.1) (0,(aJ8 .u32 x.2 (IntKind.u32.wrap (y1.toNat : Int)))) ?_ ?_)))))))
  · exact ⟨by simp,rfl⟩
  intro z hz
  obtain ⟨hz1,hz2⟩ := hz
  refine zQ 1 (zn (zs (cD (decide ((z.1 : Int) < 8)) (fun h1 => ?_) (fun h1 => ?_))))
  ·
   have h1d := of_decide_eq_true h1
   refine zk (zs (aB (zQ 3 (zn (cD ((gC .u32 z.2 1) == 1) (fun h2 => ?_) (fun h2 => ?_))))))
   ·
    have h2d := eq_of_beq h2
    refine zr (zq 5 (zn (zr (zq 1 (eV 31 ((z.1 : Int) + 1) (zq 1 (zn ?_)))))))
    refine nx (z.1 + 1,(aJ8 .u32 ((z.2).fdiv (2 ^ 1)) y)) ?_ ?_
    · exact ⟨by show z.1 + 1 ≤ 8; omega,by rw [← hz2,qM (i := z.1) (x := z.2) oW,aCx]; simp only [h2,if_true,if_false,Bool.false_eq_true]⟩
    · show 8 - (z.1 + 1) < 8 - z.1; omega
   ·
    have h2d := beq_eq_false_iff_ne.1 h2
    refine zr (zq 3 (zn (zr (zq 1 (eV 31 ((z.1 : Int) + 1) (zq 1 (zn ?_)))))))
    refine nx (z.1 + 1,((z.2).fdiv (2 ^ 1))) ?_ ?_
    · exact ⟨by show z.1 + 1 ≤ 8; omega,by rw [← hz2,qM (i := z.1) (x := z.2) oW,aCx]; simp only [h2,if_true,if_false,Bool.false_eq_true]⟩
    · show 8 - (z.1 + 1) < 8 - z.1; omega
  ·
   have h1d := of_decide_eq_false h1
   refine aU (zr (zq 1 (eV 32 ((x.1 : Int) + 1) (zq 1 (zn ?_)))))
   refine nx (x.1 + 1,z.2) ?_ ?_
   · exact ⟨by show x.1 + 1 ≤ _; omega,by rw [← hx2,aEk hy1,aDn,← hz2,show 8 - z.1 = 0 by omega]; rfl⟩
   · show l.length - (x.1 + 1) < l.length - x.1; omega
 ·
  have h0d := of_decide_eq_false h0
  refine aU (zQ 2 (zn (aA (aH [6] [(.int .u32 x.2)] (fun W' hM => ?_)))))
  exact ⟨by rw [show x.1 = l.length by omega,List.drop_length] at hx2; rw [← hx2]; rfl,hM.below⟩
def aMZ (l : List UInt8) : Int := aOh .u16 (aHN .u16 33800 65535 l)
def aDo (l : List UInt8) : Int := aOh .u32 (aHN .u32 2197175160 4294967295 l)
def lo8 (x : Int) : UInt8 := UInt8.ofNat (IntKind.u8.wrap x).toNat
def mB (k : Int) (l : List UInt8) : List UInt8 := if k == 1 then [lo8 ((aMZ l).fdiv (2 ^ 8)), lo8 (aMZ l)] else if k == 2 then [lo8 ((aDo l).fdiv (2 ^ 24)), lo8 ((aDo l).fdiv (2 ^ 16)), lo8 ((aDo l).fdiv (2 ^ 8)), lo8 (aDo l)] else []
theorem aAN {k : Int} (l : List UInt8) (h0 : 0 ≤ k) (h2 : k ≤ 2) : ((mB k l).length : Int) = 2 * k := by
 unfold mB
 rcases (by omega : k = 0 ∨ k = 1 ∨ k = 2) with rfl | rfl | rfl <;> rfl
theorem aLW (l : List UInt8) (w : World) (hl : l.length ≤ R47) : CP 261 #[.string (B l)] w (Ret (.int .u16 (aMZ l)) w) := by
 refine dK 6 Tryz.func261 ?_
 refine zQ 1 (zn (zQ 1 (dA 267 #[(.int .u16 65535),(.int .u16 33800),(St l)] (.int .u16 (aHN .u16 33800 65535 l)) (fun W hM => aDk _ _ l W hl) ?_)))
 refine zq 2 (zn (aA (jJ 2)))
theorem aLw (l : List UInt8) (w : World) (hl : l.length ≤ R47) : CP 262 #[.string (B l)] w (Ret (.int .u32 (aDo l)) w) := by
 refine dK 6 Tryz.func262 ?_
 refine zQ 1 (zn (zQ 1 (dA 268 #[(.int .u32 4294967295),(.int .u32 2197175160),(St l)] (.int .u32 (aHN .u32 2197175160 4294967295 l)) (fun W hM => aDj _ _ l W hl) ?_)))
 refine zq 2 (zn (aA (jJ 2)))
theorem aEq (k : Int) (w : World) (h0 : 0 ≤ k) (h2 : k ≤ 2) : CP 247 #[.int .i64 k] w (Ret (.int .i64 (2 * k)) w) := by
 have f0 : decide (k < 0) = false := decide_eq_false oW
 have f2 : decide (k > 2) = false := decide_eq_false oW
 refine dK 11 Tryz.func247 ?_
 refine zQ 1 (zn (zs (zQ 3 (eE 5 (.bool (decide (k < 0))) (.bool false) (congrArg Value.bool f0) ?_))))
 refine zq 3 (zn (eS (decide (k > 2)) f2 ?_))
 refine zk (zQ 2 (eV 10 (2 * k) (zq 1 (zn (aA (jJ 2))))))
theorem aGq (k : Int) (l : List UInt8) (w : World) (hl : l.length ≤ R47) : CP 252 #[.int .i64 k, .string (B l)] w (Ret (.string (B (mB k l))) w) := by
 refine dK 36 Tryz.func252 ?_
 refine zQ 1 (zn (zs (zQ 1 (zn (aB (zQ 2 (zn (cD (k == 1) (fun h0 => ?_) (fun h0 => ?_)))))))))
 ·
  refine zQ 1 (dL (fun W hM => aLW l W hl) (zq 1 (zn (zQ 5 (cJ (fun b0 => (cU [1,0] [(b0,2)] (zn (aA (aH [4] [(St [UInt8.ofNat ((IntKind.u8.wrap (((aMZ l)).fdiv (2 ^ 8))) : Int).toNat,UInt8.ofNat ((IntKind.u8.wrap (aMZ l)) : Int).toNat])] (fun W' hM => ?_)))))))))))
  exact ⟨by simp only [cG,mB,lo8,h0,bs,bQ,reduceIte],hM.below⟩
 ·
  refine zQ 2 (zn (cD (k == 2) (fun h1 => ?_) (fun h1 => ?_)))
  ·
   refine zQ 1 (dL (fun W hM => aLw l W hl) (zq 1 (zn (zQ 11 (cJ (fun b1 => (cU [1,0] [(b1,4)] (zn (aA (aH [4] [(St [UInt8.ofNat ((IntKind.u8.wrap (((aDo l)).fdiv (2 ^ 24))) : Int).toNat,UInt8.ofNat ((IntKind.u8.wrap (((aDo l)).fdiv (2 ^ 16))) : Int).toNat,UInt8.ofNat ((IntKind.u8.wrap (((aDo l)).fdiv (2 ^ 8))) : Int).toNat,UInt8.ofNat ((IntKind.u8.wrap (aDo l)) : Int).toNat])] (fun W' hM => ?_)))))))))))
   exact ⟨by simp only [cG,mB,lo8,h0,h1,bs,bQ,reduceIte],hM.below⟩
  ·
   refine zk (zQ 1 (zn (aA (aH [4] [(St [])] (fun W' hM => ?_)))))
   exact ⟨by simp only [cG,mB,lo8,h0,h1,bs,bQ,reduceIte],hM.below⟩
theorem aFx (w : World) : CP 183 #[.int .i64 4] w (Ret (.bool true) w) := by
 refine dK 13 Tryz.func183 ?_
 refine zQ 1 (zn (zQ 11 (zn (aA (jJ 2)))))
theorem aAd (w : World) : CP 138 #[.int .i64 4] w (Ret (.string (B [159])) w) := by
 refine dK 12 Tryz.func138 ?_
 refine zQ 1 (zn (zs (zQ 1 (dL (fun W hM => aFx W) (zq 1 (zn (dE (zk (zQ 4 (cJ (fun b0 => (cU [1,0] [(b0,1)] (zn (aA (jJ 2)))))))))))))))
theorem aFw (w : World) : CP 183 #[.int .i64 7] w (Ret (.bool true) w) := by
 refine dK 13 Tryz.func183 ?_
 refine zQ 1 (zn (zQ 11 (zn (aA (jJ 2)))))
theorem aAc (w : World) : CP 138 #[.int .i64 7] w (Ret (.string (B [255])) w) := by
 refine dK 12 Tryz.func138 ?_
 refine zQ 1 (zn (zs (zQ 1 (dL (fun W hM => aFw W) (zq 1 (zn (dE (zk (zQ 4 (cJ (fun b0 => (cU [1,0] [(b0,1)] (zn (aA (jJ 2)))))))))))))))
theorem aCA (l : List UInt8) (w : World) (hl : l.length ≤ R47) : CP 143 #[.string (B l)] w (Ret (.string (B (Itm.aD 2 l.length ++ l))) w) := by
 have hh := Itm.aW 2 l.length
 unfold R47 at hl
 refine dK 9 Tryz.func143 ?_
 refine zQ 1 (zn (zQ 3 (eE 5 (U6 (IntKind.u64.wrap (((l).length : Nat) : Int))) (N6 ((l).length : Nat)) (congrArg (Value.int .u64) (u64_in oW oW)) ?_)))
 refine dL (fun W hM => fQ 2 l.length W oW (by unfold W64; omega)) (zq 1 (cH (St ((Itm.aD 2 l.length) ++ l)) (cE _ _ _ _ rfl (Itm.aD 2 l.length) l kR kR oA) ?_))
 refine zq 1 (zn (aA (jJ 2)))
theorem aJI (l : List UInt8) (w : World) (hl : l.length ≤ R47) : CP 210 #[.string (B l)] w (Ret (.string (B (Itm.aD 3 l.length ++ l))) w) := by
 have hh := Itm.aW 3 l.length
 unfold R47 at hl
 refine dK 9 Tryz.func210 ?_
 refine zQ 1 (zn (zQ 3 (eE 5 (U6 (IntKind.u64.wrap (((l).length : Nat) : Int))) (N6 ((l).length : Nat)) (congrArg (Value.int .u64) (u64_in oW oW)) ?_)))
 refine dL (fun W hM => fQ 3 l.length W oW (by unfold W64; omega)) (zq 1 (cH (St ((Itm.aD 3 l.length) ++ l)) (cE _ _ _ _ rfl (Itm.aD 3 l.length) l kR kR oA) ?_))
 refine zq 1 (zn (aA (jJ 2)))
theorem dM (n : Int) (w : World) : CP 40 #[.int .u64 n] w (Ret (.agg #[.int .i64 0, .int .u64 n, .string (B []), .slice none 0 0, .bool false]) w) := by
 refine dK 5 Tryz.func40 ?_
 refine zs (zr (cJ (fun b0 => (zn (zQ 2 (aY 0 b0 (zn (aA (dU [1] [(b0,5)] [(.agg #[(I6 0),(U6 n),(St []),S0,(.bool false)])] (fun W' hM => ?_))))))))))
 exact ⟨rfl,hM.below⟩
theorem jY (l : List UInt8) (w : World) : CP 42 #[.string (B l)] w (Ret (.agg #[.int .i64 2, .int .u64 0, .string (B l), .slice none 0 0, .bool false]) w) := by
 refine dK 5 Tryz.func42 ?_
 refine zs (zr (cJ (fun b0 => (zn (zQ 2 (aY 0 b0 (zn (aA (dU [1] [(b0,5)] [(.agg #[(I6 2),(U6 0),(St l),S0,(.bool false)])] (fun W' hM => ?_))))))))))
 exact ⟨rfl,hM.below⟩
theorem dW (a : Option Addr) (n c : Nat) (w : World) : CP 178 #[.slice a n c] w (Ret (.agg #[.int .i64 4, .int .u64 0, .string (B []), .slice a n c, .bool false]) w) := by
 refine dK 5 Tryz.func178 ?_
 refine zs (zr (cJ (fun b0 => (zn (zQ 2 (aY 0 b0 (zn (aA (dU [1] [(b0,5)] [(.agg #[(I6 4),(U6 0),(St []),(.slice a n c),(.bool false)])] (fun W' hM => ?_))))))))))
 exact ⟨rfl,hM.below⟩
open Go.Proofs.YtcdjakemdlinhaaGreatDoor.Itm (Tr cN dH)
inductive TV (U : View) : Tr → List Value → Prop
 | mk (k : Int) (n : Nat) (s : List UInt8) (l : List Tr) (o : Bool) (a : Option Addr) (c : Nat) (C : Nat → List Value) (hn : n < W64) (hs : s.length ≤ R47) (hl : l.length ≤ R47)
   (hat : ∀ i, i < l.length → ∃ b f, a = some ⟨b, f, none⟩ ∧ U.range b (f + i * 5) (C i))
   (hel : ∀ i t, l[i]? = some t → TV U t (C i)) : TV U (.mk k n s l o) [.int .i64 k, .int .u64 n, .string (B s), .slice a l.length c, .bool o]
structure fG (U : View) (a : Option Addr) (l : List Tr) : Prop where
 at_ : ∀ i x, l[i]? = some x → ∃ b f cs, a = some ⟨b, f, none⟩ ∧ U.range b (f + i * 5) cs ∧ TV U x cs
 len : l.length ≤ R47
theorem TV.le {U V : View} (h : View.le U V) {t : Tr} {cs : List Value} (ht : TV U t cs) : TV V t cs := by
 induction ht with
 | mk k n s l o a c C hn hs hl hat hel ih =>
  refine .mk k n s l o a c C hn hs hl (fun i hi => ?_) ih
  obtain ⟨b, f, e, hr⟩ := hat i hi
  exact ⟨b, f, e, View.range_le h hr⟩
theorem fG.le {U V : View} (h : View.le U V) {a : Option Addr} {l : List Tr} (hl : fG U a l) : fG V a l :=
 ⟨fun i x hx => by obtain ⟨b, f, cs, e, hr, ht⟩ := hl.at_ i x hx; exact ⟨b, f, cs, e, View.range_le h hr, ht.le h⟩, hl.len⟩
theorem TV.form {U : View} {t : Tr} {cs : List Value} (h : TV U t cs) : ∃ a c, cs = [.int .i64 t.k, .int .u64 t.n, .string (B t.s), .slice a t.l.length c, .bool t.o] ∧ fG U a t.l ∧ t.n < W64 ∧ t.s.length ≤ R47 ∧ t.l.length ≤ R47 := by
 cases h with
 | mk k n s l o a c C hn hs hl hat hel =>
  refine ⟨a, c, rfl, ⟨fun i x hx => ?_, hl⟩, hn, hs, hl⟩
  obtain ⟨b, f, e, hr⟩ := hat i (List.getElem?_eq_some_iff.1 hx).1
  exact ⟨b, f, C i, e, hr, hel i x hx⟩
theorem TV.of {U : View} {t : Tr} {a : Option Addr} {c : Nat} (h : fG U a t.l) (hn : t.n < W64) (hs : t.s.length ≤ R47) : TV U t [.int .i64 t.k, .int .u64 t.n, .string (B t.s), .slice a t.l.length c, .bool t.o] := by
 obtain ⟨k, n, s, l, o⟩ := t
 have hone : ∀ i, i < l.length → ∃ cs : List Value, (∃ b f, a = some ⟨b, f, none⟩ ∧ U.range b (f + i * 5) cs) ∧ ∀ t, l[i]? = some t → TV U t cs := by
  intro i hi
  obtain ⟨b, f, cs, e, hr, ht⟩ := h.at_ i l[i] (List.getElem?_eq_getElem hi)
  refine ⟨cs, ⟨b, f, e, hr⟩, fun t ht2 => ?_⟩
  change l[i]? = some t at ht2
  rw [List.getElem?_eq_getElem hi] at ht2
  rw [← Option.some.inj ht2]; exact ht
 obtain ⟨C, hC⟩ := Deep.choose_lt (α := List Value) hone
 exact .mk k n s l o a c C hn hs h.len (fun i hi => (hC i hi).1) (fun i t ht => (hC i (List.getElem?_eq_some_iff.1 ht).1).2 t ht)
theorem TV.list {U : View} {a : Option Addr} {l : List Tr} (c : Nat) (h : fG U a l) : TV U (dH l) [.int .i64 4, .int .u64 0, .string (B []), .slice a l.length c, .bool false] := TV.of (t := dH l) (c := c) h (show (0 : Nat) < W64 by decide) (show (0 : Nat) ≤ R47 by decide)
theorem fG.nil (U : View) : fG U none [] := ⟨fun i x h => by simp at h, by decide⟩
theorem TV.num (U : View) (n : Nat) (hn : n < W64) : TV U (cN n) [.int .i64 0, .int .u64 n, .string (B []), .slice none 0 0, .bool false] := TV.of (t := cN n) (c := 0) (fG.nil U) hn (show (0 : Nat) ≤ R47 by decide)
def dY (l : List UInt8) : Tr := .mk 2 0 l [] false
def aHL (l : List UInt8) : Tr := .mk 3 0 l [] false
theorem TV.str (U : View) (l : List UInt8) (hl : l.length ≤ R47) : TV U (dY l) [.int .i64 2, .int .u64 0, .string (B l), .slice none 0 0, .bool false] := TV.of (t := dY l) (c := 0) (fG.nil U) (by decide : (0 : Nat) < W64) hl
theorem TV.txt (U : View) (l : List UInt8) (hl : l.length ≤ R47) : TV U (aHL l) [.int .i64 3, .int .u64 0, .string (B l), .slice none 0 0, .bool false] := TV.of (t := aHL l) (c := 0) (fG.nil U) (by decide : (0 : Nat) < W64) hl
theorem TV.len5 {U : View} {t : Tr} {cs : List Value} (h : TV U t cs) : cs.length = 5 := by obtain ⟨a, c, rfl, _⟩ := h.form; rfl
theorem fD {U : View} {b f : Nat} {xs ys : List Value} (h : U.range b f (xs ++ ys)) : U.range b f xs ∧ U.range b (f + xs.length) ys :=
 ⟨fun j v hj => h j v (by rw [List.getElem?_append_left (List.getElem?_eq_some_iff.1 hj).1]; exact hj), fun j v hj => by
  have := h (xs.length + j) v (by rw [List.getElem?_append_right oW, Nat.add_sub_cancel_left]; exact hj)
  rw [Nat.add_assoc]; exact this⟩
def gL (V : View) : List (Tr × List Value) → Prop
 | [] => True
 | p :: r => TV V p.1 p.2 ∧ gL V r
theorem gL.get {V : View} : ∀ {L : List (Tr × List Value)}, gL V L → ∀ {b f : Nat}, V.range b f (L.flatMap Prod.snd) → ∀ i x, (L.map Prod.fst)[i]? = some x → ∃ cs, V.range b (f + i * 5) cs ∧ TV V x cs
 | [], _, b, f, _, i, x, h => by simp at h
 | p :: r, ⟨h1, h2⟩, b, f, hr, i, x, h => by
  rw [List.flatMap_cons] at hr
  obtain ⟨r1, r2⟩ := fD hr
  cases i with
  | zero =>
   simp only [List.map_cons, List.getElem?_cons_zero, Option.some.injEq] at h
   subst h
   exact ⟨p.2, by simpa using r1, h1⟩
  | succ i =>
   simp only [List.map_cons, List.getElem?_cons_succ] at h
   obtain ⟨cs, c1, c2⟩ := gL.get h2 r2 i x h
   refine ⟨cs, ?_, c2⟩
   rw [h1.len5] at c1
   rw [show f + (i + 1) * 5 = f + 5 + i * 5 by omega]
   exact c1
theorem fG.lit {V : View} {b f : Nat} (L : List (Tr × List Value)) (hr : V.range b f (L.flatMap Prod.snd)) (ht : gL V L) (hl : (L.map Prod.fst).length ≤ R47) : fG V (some ⟨b, f, none⟩) (L.map Prod.fst) :=
 ⟨fun i x hx => by obtain ⟨cs, h1, h2⟩ := ht.get hr i x hx; exact ⟨b, f, cs, rfl, h1, h2⟩, hl⟩
theorem TV.toTAt {U : View} {t : Tr} {cs : List Value} (h : TV U t cs) {w : World} (hU : See U w) : Itm.TAt w t cs := by
 induction h with
 | mk k n s l o a c C hn hs hl hat hel ih =>
  refine .mk k n s l o a c C hn hs hl (fun i hi => ?_) ih
  obtain ⟨b, f, e, hr⟩ := hat i hi
  refine ⟨b, f, e, ?_, View.range_of hr hU⟩
  have h5 := (hel i l[i] (List.getElem?_eq_getElem hi)).len5
  have := hr 0 ((C i)[0]'oW) (List.getElem?_eq_getElem oW)
  exact oT (hU _ _ this)
theorem TV.cast {U : View} {t t' : Tr} {cs : List Value} (h : TV U t cs) (e : t = t') : TV U t' cs := e ▸ h
def Ei.tree (e : Ei) : Itm.Tr := if e.s == 2 then Itm.dH [Itm.cN 2, Itm.dH [Itm.cN e.n, Itm.cN e.v]] else if e.l == [110, 111, 110, 101] then Itm.dH [Itm.cN 1, Itm.cN 0] else Itm.dH [Itm.cN 1, aHL e.l]
def aJ6 (t : Itm.Tr) (n : Int) : Value → View → Prop := fun v V => ∃ cs, v = .tuple #[.agg cs.toArray, .int .i64 n] ∧ TV V t cs
theorem oB (e : Ei) (w : World) {U : View} (hU : See U w) (he : e.ok) (hr : aX e = true) : CP 177 #[e.V] w (rO w U (aJ6 e.tree 0)) := by
 have hn := he.n
 have hv := he.v
 have hl := he.l
 refine eG 38 Tryz.func177 hU ?_
 refine zs (zr (cJ (fun b0 => (cJ (fun b1 => (zq 1 (zn (zs (aB (zB [1] [(b0,4)] (dL (fun W hM => iW e W he.l) (zq 2 (zn (eS (!(aX e)) (by rw [hr]; rfl) ?_))))))))))))))
 refine zB [0,1,0,0] [(b0,1)] (zn (cD (e.s == 2) (fun h0 => ?_) (fun h0 => ?_)))
 ·
  have h0d := eq_of_beq h0
  refine zs ?_
  refine aBM 4 [1,0,3,1,0,3] [(b0,1),(b0,1)] [.val (.agg #[(I6 0),(U6 2),(St []),S0,(.bool false)]),.val (iV e.n)] (by simp only [List.forall_mem_cons]; exact ⟨trivial,trivial,fun _ h => by cases h⟩) ⟨?_,?_,trivial⟩ ?_
  ·
   refine wV 40 (fun u => #[(U6 2)]) fun u V hV hdq W hW => ?_
   exact dM _ W
  ·
   refine wV 40 (fun u => #[(N6 e.n)]) fun u V hV hdq W hW => ?_
   exact dM _ W
  intro u2 V2 hV2 hdq2
  have k3 := (TV.num _ 2 (by first | assumption | decide | (unfold W64; omega))).le hV2
  have k4 := (TV.num _ e.n (by first | assumption | decide | (unfold W64; omega))).le hV2
  refine dA 40 #[(N6 e.v)] (iV e.v) (fun W hM => dM _ W) ?_
  refine gO [(I6 0),(N6 e.n),(St []),S0,(.bool false),(I6 0),(N6 e.v),(St []),S0,(.bool false)] 89 (fun r => (Sl r 0 2 2)) kR kR kR (fun g5 V5 hV5 hR5 => ?_)
  have k6 := k3.le hV5
  have k7 := k4.le hV5
  have k8 := (TV.num _ e.v (by first | assumption | decide | (unfold W64; omega))).le hV5
  have hT5 : fG V5 (some ⟨g5,0,none⟩) [(Itm.cN e.n),(Itm.cN e.v)] := fG.lit [((Itm.cN e.n),(iN e.n)),((Itm.cN e.v),(iN e.v))] hR5 ⟨k7,k8,trivial⟩ (show 2 ≤ R47 by decide)
  refine dA 178 #[(Sl g5 0 2 2)] (.agg #[(I6 4),(U6 0),(St []),(Sl g5 0 2 2),(.bool false)]) (fun W hM => dW _ _ _ W) ?_
  refine gO [(I6 0),(U6 2),(St []),S0,(.bool false),(I6 4),(U6 0),(St []),(Sl g5 0 2 2),(.bool false)] 89 (fun r => (Sl r 0 2 2)) kR kR kR (fun g9 V9 hV9 hR9 => ?_)
  have k11 := k6.le hV9
  have k14 := (TV.list 2 hT5).le hV9
  have hT9 : fG V9 (some ⟨g9,0,none⟩) [(Itm.cN 2),(Itm.dH [(Itm.cN e.n),(Itm.cN e.v)])] := fG.lit [((Itm.cN 2),[(I6 0),(U6 2),(St []),S0,(.bool false)]),((Itm.dH [(Itm.cN e.n),(Itm.cN e.v)]),[(I6 4),(U6 0),(St []),(Sl g5 0 2 2),(.bool false)])] hR9 ⟨k11,k14,trivial⟩ (show 2 ≤ R47 by decide)
  refine dA 178 #[(Sl g9 0 2 2)] (.agg #[(I6 4),(U6 0),(St []),(Sl g9 0 2 2),(.bool false)]) (fun W hM => dW _ _ _ W) ?_
  refine aY 1 b1 (zq 1 (zn (aA (dU [2,0] [(b1,5)] [(.agg #[(I6 4),(U6 0),(St []),(Sl g9 0 2 2),(.bool false)]),(I6 0)] (fun W' hM => ?_)))))
  exact cF hM (View.le_trans (View.le_trans hV2 hV5) hV9) ⟨[(I6 4),(U6 0),(St []),(Sl g9 0 2 2),(.bool false)],rfl,((TV.list 2 hT9)).cast (by simp only [Ei.tree,h0,hr,bs,bQ,reduceIte])⟩
 ·
  have h0d := beq_eq_false_iff_ne.1 h0
  refine zB [0,1] [(b0,1)] (cH (.bool (e.l == [110,111,110,101])) (eJ _ _ _ _ rfl e.l [110,111,110,101] kR kR) ?_)
  refine zq 1 (zn (cD (e.l == [110,111,110,101]) (fun h1 => ?_) (fun h1 => ?_)))
  ·
   have h1d := eq_of_beq h1
   refine zs (zr (dA 40 #[(U6 1)] (.agg #[(I6 0),(U6 1),(St []),S0,(.bool false)]) (fun W hM => dM _ W) ?_))
   refine dA 40 #[(U6 0)] (.agg #[(I6 0),(U6 0),(St []),S0,(.bool false)]) (fun W hM => dM _ W) ?_
   refine gO [(I6 0),(U6 1),(St []),S0,(.bool false),(I6 0),(U6 0),(St []),S0,(.bool false)] 89 (fun r => (Sl r 0 2 2)) kR kR kR (fun g15 V15 hV15 hR15 => ?_)
   have k16 := (TV.num _ 1 (by first | assumption | decide | (unfold W64; omega))).le hV15
   have k17 := (TV.num _ 0 (by first | assumption | decide | (unfold W64; omega))).le hV15
   have hT15 : fG V15 (some ⟨g15,0,none⟩) [(Itm.cN 1),(Itm.cN 0)] := fG.lit [((Itm.cN 1),[(I6 0),(U6 1),(St []),S0,(.bool false)]),((Itm.cN 0),[(I6 0),(U6 0),(St []),S0,(.bool false)])] hR15 ⟨k16,k17,trivial⟩ (show 2 ≤ R47 by decide)
   refine dA 178 #[(Sl g15 0 2 2)] (.agg #[(I6 4),(U6 0),(St []),(Sl g15 0 2 2),(.bool false)]) (fun W hM => dW _ _ _ W) ?_
   refine aY 1 b1 (zq 1 (zn (aA (dU [2,0] [(b1,5)] [(.agg #[(I6 4),(U6 0),(St []),(Sl g15 0 2 2),(.bool false)]),(I6 0)] (fun W' hM => ?_)))))
   exact cF hM hV15 ⟨[(I6 4),(U6 0),(St []),(Sl g15 0 2 2),(.bool false)],rfl,((TV.list 2 hT15)).cast (by simp only [Ei.tree,h0,h1,hr,bs,bQ,reduceIte])⟩
  ·
   have h1d := beq_eq_false_iff_ne.1 h1
   refine zk (zs ?_)
   refine aBM 3 [1,0,3,0] [(b0,1)] [.val (.agg #[(I6 0),(U6 1),(St []),S0,(.bool false)])] (by simp only [List.forall_mem_cons]; exact ⟨trivial,fun _ h => by cases h⟩) ⟨?_,trivial⟩ ?_
   ·
    refine wV 40 (fun u => #[(U6 1)]) fun u V hV hdq W hW => ?_
    exact dM _ W
   intro u18 V18 hV18 hdq18
   have k19 := (TV.num _ 1 (by first | assumption | decide | (unfold W64; omega))).le hV18
   refine gO [(I6 0),(U6 1),(St []),S0,(.bool false),(I6 3),(U6 0),(St e.l),S0,(.bool false)] 89 (fun r => (Sl r 0 2 2)) kR kR kR (fun g20 V20 hV20 hR20 => ?_)
   have k21 := k19.le hV20
   have hT20 : fG V20 (some ⟨g20,0,none⟩) [(Itm.cN 1),(aHL e.l)] := fG.lit [((Itm.cN 1),[(I6 0),(U6 1),(St []),S0,(.bool false)]),((aHL e.l),[(I6 3),(U6 0),(St e.l),S0,(.bool false)])] hR20 ⟨k21,(TV.txt _ e.l (by first | assumption | decide | (unfold R47; omega))),trivial⟩ (show 2 ≤ R47 by decide)
   refine dA 178 #[(Sl g20 0 2 2)] (.agg #[(I6 4),(U6 0),(St []),(Sl g20 0 2 2),(.bool false)]) (fun W hM => dW _ _ _ W) ?_
   refine aY 1 b1 (zq 1 (zn (aA (dU [2,0] [(b1,5)] [(.agg #[(I6 4),(U6 0),(St []),(Sl g20 0 2 2),(.bool false)]),(I6 0)] (fun W' hM => ?_)))))
   exact cF hM (View.le_trans hV18 hV20) ⟨[(I6 4),(U6 0),(St []),(Sl g20 0 2 2),(.bool false)],rfl,((TV.list 2 hT20)).cast (by simp only [Ei.tree,h0,h1,hr,bs,bQ,reduceIte])⟩
theorem aGy {α : Type} {f : α → Bool} {l : List α} {i : Nat} {y : α} (h : l[i]? = some y) : (l.drop i).all f = (f y && (l.drop (i + 1)).all f) := by
 obtain ⟨hl, rfl⟩ := List.getElem?_eq_some_iff.1 h
 rw [List.drop_eq_getElem_cons hl, List.all_cons]
theorem fR {t : Itm.Tr} (n : Nat) (h : t.k ≠ 4) : Itm.aN (n + 1) t = Itm.okN t.k t.n t.s t.l.length t.o := by
 rw [Itm.aN]
 cases ho : Itm.okN t.k t.n t.s t.l.length t.o with
 | false => rfl
 | true =>
  have hl : t.l.length = 0 := by
   rcases Itm.oQ ho with ⟨_, _, h1, _⟩ | ⟨_, _, h1, _⟩ | ⟨_, _, h1, _⟩ | ⟨h1, _⟩
   · exact h1
   · exact h1
   · exact h1
   · exact absurd h1 h
  rw [List.length_eq_zero_iff.1 hl]
  rfl
theorem aEV (t : Itm.Tr) (a : Option Addr) (c : Nat) (w : World) {U : View} (hU : See U w) (hts : fG U a t.l) : CP 209 #[.agg #[.int .i64 t.k, .int .u64 t.n, .string (B t.s), .slice a t.l.length c, .bool t.o], .int .i64 0] w (Ret (.bool false) w) := by
 refine eG 73 Tryz.func209 hU ?_
 refine zs (zr (cJ (fun b0 => (zq 1 (zn (zs (zQ 2 (zn (dF (zQ 1 (zn (aA (jJ 4)))))))))))))
theorem aEW (n : Nat) (hn : n ≤ 8) (ih : ∀ (t : Itm.Tr) (cs : List Value) (w : World) {U : View}, (∀ a v, U a = some v → w.cell? a = some v) → TV U t cs → CP 209 #[.agg cs.toArray, .int .i64 (n : Int)] w (Ret (.bool (Itm.aN n t)) w))
    (t : Itm.Tr) (a : Option Addr) (c : Nat) (w : World) {U : View} (hU : See U w) (hts : fG U a t.l) : CP 209 #[.agg #[.int .i64 t.k, .int .u64 t.n, .string (B t.s), .slice a t.l.length c, .bool t.o], .int .i64 ((n + 1 : Nat) : Int)] w (Ret (.bool (Itm.aN (n + 1) t)) w) := by
 have hlen := hts.len
 unfold R47 at hlen
 refine eG 73 Tryz.func209 hU ?_
 refine zs (zr (cJ (fun b0 => (zq 1 (zn (zs (zQ 2 (zn (eS (decide (((n + 1 : Nat) : Int) < 1)) (decide_eq_false oW) ?_)))))))))
 refine zk (zs (zB [0,1] [(b0,1)] (zn (aB (zQ 2 (zn (cD (t.k == 0) (fun h0 => ?_) (fun h0 => ?_))))))))
 ·
  have h0d := eq_of_beq h0
  refine zB [0,1] [(b0,1)] (cH (.bool (t.s == [])) (eJ _ _ _ _ rfl t.s [] kR kR) ?_)
  refine zq 1 (aK 16 (t.s == []) (fun h1 => ?_) (fun h1 => ?_))
  ·
   have h1d := eq_of_beq h1
   refine cU [0,1,0,0,0,0] [(b0,1)] (aK 22 ((t.l.length : Int) == 0) (fun h2 => ?_) (fun h2 => ?_))
   ·
    have h2d := eq_of_beq h2
    refine cU [0,1,0,0,0] [(b0,1)] (zn (aA (aH [4] [(.bool (!t.o))] (fun W' hM => ?_))))
    refine ⟨?_,hM.below⟩
    rw [fR n oW]
    unfold Itm.okN
    rw [if_pos oW]
    simp only [decide_eq_true (show (t.s = []) by assumption),decide_eq_true (show (t.l.length = 0) by omega),bs,bQ,reduceIte]
    try rfl
   ·
    have h2d := beq_eq_false_iff_ne.1 h2
    refine zq 5 (zn (aA (aH [4] [(.bool false)] (fun W' hM => ?_))))
    refine ⟨?_,hM.below⟩
    rw [fR n oW]
    unfold Itm.okN
    rw [if_pos oW]
    simp only [decide_eq_true (show (t.s = []) by assumption),decide_eq_false (show ¬ (t.l.length = 0) by omega),bs,bQ,reduceIte]
    try rfl
  ·
   have h1d := beq_eq_false_iff_ne.1 h1
   refine zq 11 (zn (aA (aH [4] [(.bool false)] (fun W' hM => ?_))))
   refine ⟨?_,hM.below⟩
   rw [fR n oW]
   unfold Itm.okN
   rw [if_pos oW]
   simp only [decide_eq_false (show ¬ (t.s = []) by assumption),bs,bQ,reduceIte]
   try rfl
 ·
  have h0d := beq_eq_false_iff_ne.1 h0
  refine zs (zQ 2 (zn (cD (t.k == 2) (fun h3 => ?_) (fun h3 => ?_))))
  ·
   have h3d := eq_of_beq h3
   refine zk (gP (t.k == 2) h3 ?_)
   refine zB [0,1,0,0] [(b0,1)] (aK 33 ((t.n : Int) == 0) (fun h4 => ?_) (fun h4 => ?_))
   ·
    have h4d := eq_of_beq h4
    refine cU [0,1,0,0,0,0] [(b0,1)] (aK 39 ((t.l.length : Int) == 0) (fun h5 => ?_) (fun h5 => ?_))
    ·
     have h5d := eq_of_beq h5
     refine cU [0,1,0,0,0] [(b0,1)] (zn (aA (aH [4] [(.bool (!t.o))] (fun W' hM => ?_))))
     refine ⟨?_,hM.below⟩
     rw [fR n oW]
     unfold Itm.okN
     rw [if_neg oW,if_pos oW]
     simp only [decide_eq_true (show (t.n = 0) by omega),decide_eq_true (show (t.l.length = 0) by omega),bs,bQ,reduceIte]
     try rfl
    ·
     have h5d := beq_eq_false_iff_ne.1 h5
     refine zq 5 (zn (aA (aH [4] [(.bool false)] (fun W' hM => ?_))))
     refine ⟨?_,hM.below⟩
     rw [fR n oW]
     unfold Itm.okN
     rw [if_neg oW,if_pos oW]
     simp only [decide_eq_true (show (t.n = 0) by omega),decide_eq_false (show ¬ (t.l.length = 0) by omega),bs,bQ,reduceIte]
     try rfl
   ·
    have h4d := beq_eq_false_iff_ne.1 h4
    refine zq 11 (zn (aA (aH [4] [(.bool false)] (fun W' hM => ?_))))
    refine ⟨?_,hM.below⟩
    rw [fR n oW]
    unfold Itm.okN
    rw [if_neg oW,if_pos oW]
    simp only [decide_eq_false (show ¬ (t.n = 0) by omega),bs,bQ,reduceIte]
    try rfl
  ·
   have h3d := beq_eq_false_iff_ne.1 h3
   refine zr (zq 2 (zn (cD (t.k == 3) (fun h6 => ?_) (fun h6 => ?_))))
   ·
    have h6d := eq_of_beq h6
    refine zB [0,1,0,0] [(b0,1)] (aK 33 ((t.n : Int) == 0) (fun h7 => ?_) (fun h7 => ?_))
    ·
     have h7d := eq_of_beq h7
     refine cU [0,1,0,0,0,0] [(b0,1)] (aK 39 ((t.l.length : Int) == 0) (fun h8 => ?_) (fun h8 => ?_))
     ·
      have h8d := eq_of_beq h8
      refine cU [0,1,0,0,0] [(b0,1)] (zn (aA (aH [4] [(.bool (!t.o))] (fun W' hM => ?_))))
      refine ⟨?_,hM.below⟩
      rw [fR n oW]
      unfold Itm.okN
      rw [if_neg oW,if_pos oW]
      simp only [decide_eq_true (show (t.n = 0) by omega),decide_eq_true (show (t.l.length = 0) by omega),bs,bQ,reduceIte]
      try rfl
     ·
      have h8d := beq_eq_false_iff_ne.1 h8
      refine zq 5 (zn (aA (aH [4] [(.bool false)] (fun W' hM => ?_))))
      refine ⟨?_,hM.below⟩
      rw [fR n oW]
      unfold Itm.okN
      rw [if_neg oW,if_pos oW]
      simp only [decide_eq_true (show (t.n = 0) by omega),decide_eq_false (show ¬ (t.l.length = 0) by omega),bs,bQ,reduceIte]
      try rfl
    ·
     have h7d := beq_eq_false_iff_ne.1 h7
     refine zq 11 (zn (aA (aH [4] [(.bool false)] (fun W' hM => ?_))))
     refine ⟨?_,hM.below⟩
     rw [fR n oW]
     unfold Itm.okN
     rw [if_neg oW,if_pos oW]
     simp only [decide_eq_false (show ¬ (t.n = 0) by omega),bs,bQ,reduceIte]
     try rfl
   ·
    have h6d := beq_eq_false_iff_ne.1 h6
    refine zQ 2 (zn (cD (t.k == 4) (fun h9 => ?_) (fun h9 => ?_)))
    ·
     have h9d := eq_of_beq h9
     refine zs (zB [0,1,0,0] [(b0,1)] (aK 49 ((t.n : Int) != 0) (fun h10 => ?_) (fun h10 => ?_)))
     ·
      have h10d := bne_iff_ne.1 h10
      refine zq 10 (zn (dF (zQ 1 (zn (aA (aH [4] [(.bool false)] (fun W' hM => ?_)))))))
      refine ⟨?_,hM.below⟩
      have hk : Itm.okN t.k t.n t.s t.l.length t.o = false := by unfold Itm.okN; rw [if_neg oW,if_neg oW,if_pos oW]; simp; intros; first | omega | contradiction
      rw [Itm.aN,hk]
      rfl
     ·
      have h10d := bne_eq_false_iff_eq.1 h10
      refine cU [0,1] [(b0,1)] (cH (.bool (!(t.s == []))) (mN _ _ _ _ rfl t.s [] kR kR) ?_)
      refine zq 2 (aK 54 (!(t.s == [])) (fun h11 => ?_) (fun h11 => ?_))
      ·
       refine zq 5 (zn (dF (zQ 1 (zn (aA (aH [4] [(.bool false)] (fun W' hM => ?_)))))))
       have hs9 : t.s ≠ [] := by simpa using h11
       refine ⟨?_,hM.below⟩
       have hk : Itm.okN t.k t.n t.s t.l.length t.o = false := by unfold Itm.okN; rw [if_neg oW,if_neg oW,if_pos oW]; simp; intros; first | omega | contradiction
       rw [Itm.aN,hk]
       rfl
      ·
       refine cU [0,1,0,0,0] [(b0,1)] (zn (cD (decide ((t.l.length : Int) > 1000)) (fun h12 => ?_) (fun h12 => ?_)))
       ·
        have h12d := of_decide_eq_true h12
        refine zQ 1 (zn (aA (aH [4] [(.bool false)] (fun W' hM => ?_))))
        have hs9 : t.s = [] := by simpa using h11
        refine ⟨?_,hM.below⟩
        have hk : Itm.okN t.k t.n t.s t.l.length t.o = false := by unfold Itm.okN; rw [if_neg oW,if_neg oW,if_pos oW]; simp; intros; first | omega | contradiction
        rw [Itm.aN,hk]
        rfl
       ·
        have h12d := of_decide_eq_false h12
        refine zk (zs (zB [0,1,0,0] [(b0,1)] (zn (aB (gX (α := Nat) (fun x => [1,4,61,62,63].zip [(L6 (n + 1)),(.bool false),(.slice a t.l.length c),(L6 t.l.length),(L6 x)]) (fun x => U) (fun x => [(bK b0 (tC t a c) 89)]) (fun x => x ≤ t.l.length ∧ (t.l.drop x).all (Itm.aN n) = t.l.all (Itm.aN n)) (fun x => t.l.length - x) 0 ?_ ?_)))))
        · exact ⟨Nat.zero_le _,by rw [List.drop_zero]⟩
        intro x hx
        obtain ⟨hx1,hx2⟩ := hx
        refine zQ 1 (zn (zs (cD (decide ((x : Int) < (t.l.length : Int))) (fun h13 => ?_) (fun h13 => ?_))))
        ·
         have h13d := of_decide_eq_true h13
         refine zk (zs (aB (zs (zr ?_))))
         obtain ⟨y1,hy1⟩ : ∃ y,(t.l)[x]? = some y := ⟨(t.l)[x]'oW,List.getElem?_eq_getElem _⟩
         obtain ⟨b1,f1,cs1,rfl,hU1,ht1⟩ := hts.at_ x y1 hy1
         obtain ⟨a1,c1,rfl,hts1,hn1,hs1,hl1⟩ := ht1.form
         refine cH (Pt b1 (f1 + x * 5)) (rIx 89 rfl b1 f1 t.l.length c x 5) ?_
         refine zU b1 (f1 + x * 5) (tC y1 a1 c1) hU1 89 (.tmp 65) _ Tryz.underlying89 rfl ?_
         refine cJ (fun b2 => (aY 1 b2 (zn (zB [2,0,0] [(b2,5)] (eE 69 (I6 (IntKind.i64.wrap (((n + 1 : Nat) : Int) - 1))) (L6 n) (congrArg (Value.int .i64) (by rw [IntWalk.i64_in _ oW]; omega)) ?_)))))
         refine dA 209 #[(tV y1 a1 c1),(L6 n)] (.bool (Itm.aN n y1)) (fun W hM => ih _ _ W hM.view ht1) ?_
         refine zq 1 (zn (cD (!(Itm.aN n y1)) (fun h14 => ?_) (fun h14 => ?_)))
         ·
          refine zQ 1 (zn (aA (aH [4] [(.bool false)] (fun W' hM => ?_))))
          have hs9 : t.s = [] := by simpa using h11
          have hk : Itm.okN t.k t.n t.s t.l.length t.o = true := by unfold Itm.okN; rw [if_neg oW,if_neg oW,if_pos oW]; simp; refine ⟨⟨by omega,by assumption⟩,by omega⟩
          refine ⟨?_,hM.below⟩
          rw [Itm.aN,hk,← hx2,aGy hy1,show Itm.aN n y1 = false by simpa using h14]
          rfl
         ·
          refine zk (zr (zq 1 (eV 72 ((x : Int) + 1) (zq 1 (zn ?_)))))
          refine nx (x + 1) ?_ ?_ (d := fun _ h => Mem.sub (List.sublist_append_left _ _) (h.eqv (show _ = ([(bK b0 [(I6 t.k),(N6 t.n),(St t.s),(Sl b1 f1 t.l.length c),(.bool t.o)] 89)] : aF) ++ ([(bK b2 (tC y1 a1 c1) 89)] : aF) from by kernel_rfl)))
          · exact ⟨by omega,by rw [← hx2,aGy hy1,show Itm.aN n y1 = true by simpa using h14,Bool.true_and]⟩
          · show t.l.length - (x + 1) < t.l.length - x; omega
        ·
         have h13d := of_decide_eq_false h13
         refine aU (zQ 1 (zn (aA (aH [4] [(.bool true)] (fun W' hM => ?_)))))
         have hs9 : t.s = [] := by simpa using h11
         have hk : Itm.okN t.k t.n t.s t.l.length t.o = true := by unfold Itm.okN; rw [if_neg oW,if_neg oW,if_pos oW]; simp; refine ⟨⟨by omega,by assumption⟩,by omega⟩
         refine ⟨?_,hM.below⟩
         rw [Itm.aN,hk,← hx2,List.drop_eq_nil_of_le oW]
         rfl
    ·
     have h9d := beq_eq_false_iff_ne.1 h9
     refine zk (zQ 1 (zn (aA (aH [4] [(.bool false)] (fun W' hM => ?_)))))
     refine ⟨?_,hM.below⟩
     rw [fR n oW]
     unfold Itm.okN
     rw [if_neg oW,if_neg oW,if_neg oW]
     rfl
theorem aB4 : ∀ (n : Nat), n ≤ 8 → ∀ (t : Itm.Tr) (cs : List Value) (w : World) {U : View}, (∀ a v, U a = some v → w.cell? a = some v) → TV U t cs → CP 209 #[.agg cs.toArray, .int .i64 (n : Int)] w (Ret (.bool (Itm.aN n t)) w)
 | 0, _, t, cs, w, U, hU, h => by
  obtain ⟨a, c, rfl, hts, hn, hs, hl⟩ := h.form
  exact aEV t a c w hU hts
 | n + 1, hn, t, cs, w, U, hU, h => by
  obtain ⟨a, c, rfl, hts, _, hs, hl⟩ := h.form
  exact aEW n oW (aB4 n oW) t a c w hU hts
theorem lO (t : Itm.Tr) (cs : List Value) (w : World) {U : View} (hU : See U w) (h : TV U t cs) : CP 179 #[.agg cs.toArray] w (Ret (.bool (Itm.aN 8 t)) w) := by
 have h0 := h
 obtain ⟨a,c,rfl,hts,hn,hs,hl⟩ := h.form
 refine eG 5 Tryz.func179 hU ?_
 refine zs (zr (cJ (fun b0 => (zq 1 (zn (zB [1] [(b0,5)] (dA 209 #[(tV t a c),(I6 8)] (.bool (Itm.aN 8 t)) (fun W hM => aB4 8 (by decide) t _ W hM.view h0) ?_)))))))
 refine zq 1 (zn (aA (jJ 2)))
noncomputable def eqT (a b : Itm.Tr) : Bool := @decide (a = b) (Classical.propDecidable _)
noncomputable def eqL (a b : List Itm.Tr) : Bool := @decide (a = b) (Classical.propDecidable _)
theorem aFr {a b : Itm.Tr} : eqT a b = true ↔ a = b := by unfold eqT; simp
theorem aFs {a b : List Itm.Tr} : eqL a b = true ↔ a = b := by unfold eqL; simp
theorem aCu {a b : Itm.Tr} : eqT a b = false ↔ a ≠ b := by unfold eqT; simp
theorem aGl {l m : List Itm.Tr} {i : Nat} {y z : Itm.Tr} (hy : l[i]? = some y) (hz : m[i]? = some z) : eqL (l.drop i) (m.drop i) = (eqT y z && eqL (l.drop (i + 1)) (m.drop (i + 1))) := by
 obtain ⟨h1, rfl⟩ := List.getElem?_eq_some_iff.1 hy
 obtain ⟨h2, rfl⟩ := List.getElem?_eq_some_iff.1 hz
 rw [List.drop_eq_getElem_cons h1, List.drop_eq_getElem_cons h2]
 rw [Bool.eq_iff_iff, Bool.and_eq_true, aFs, aFr, aFs, List.cons.injEq]
theorem aJB (t u : Itm.Tr) (h1 : t.k = u.k) (h2 : t.n = u.n) (h3 : t.s = u.s) (h4 : t.o = u.o) : eqT t u = eqL t.l u.l := by
 obtain ⟨k, n, s, l, o⟩ := t
 obtain ⟨k', n', s', l', o'⟩ := u
 simp only [Itm.Tr.k, Itm.Tr.n, Itm.Tr.s, Itm.Tr.l, Itm.Tr.o] at *
 subst h1 h2 h3 h4
 rw [Bool.eq_iff_iff, aFr, aFs]
 exact ⟨fun h => by injection h, fun h => by rw [h]⟩
theorem aGO (n : Nat) (ih : ∀ (t u : Itm.Tr) (cs ds : List Value) (w : World) {U : View}, (∀ a v, U a = some v → w.cell? a = some v) → TV U t cs → TV U u ds → Itm.aN n t = true → CP 243 #[.agg cs.toArray, .agg ds.toArray] w (Ret (.bool (eqT t u)) w))
    (t u : Itm.Tr) (a b : Option Addr) (c d : Nat) (w : World) {U : View} (hU : See U w) (hts : fG U a t.l) (hus : fG U b u.l) (hr : t.l.all (Itm.aN n) = true) :
    CP 243 #[.agg #[.int .i64 t.k, .int .u64 t.n, .string (B t.s), .slice a t.l.length c, .bool t.o], .agg #[.int .i64 u.k, .int .u64 u.n, .string (B u.s), .slice b u.l.length d, .bool u.o]] w (Ret (.bool (eqT t u)) w) := by
 have hlen := hts.len
 unfold R47 at hlen
 refine eG 60 Tryz.func243 hU ?_
 refine zs (zr (cJ (fun b0 => (cJ (fun b1 => (zq 1 (zn (zs (zB [0,1,0,2,0,0] [(b0,1),(b1,1)] (aK 11 (t.k != u.k) (fun h0 => ?_) (fun h0 => ?_)))))))))))
 ·
  refine zq 29 (zn (dF (zQ 1 (zn (aA (aH [4] [(.bool false)] (fun W' hM => ?_)))))))
  refine ⟨?_,hM.below⟩
  rw [show eqT t u = false from aCu.2 fun h => by have := h0; rw [h] at this; simp at this]
  rfl
 ·
  have h0d := bne_eq_false_iff_eq.1 h0
  refine cU [0,1,0,2,0,0,0] [(b0,1),(b1,1)] (aK 18 ((t.n : Int) != (u.n : Int)) (fun h1 => ?_) (fun h1 => ?_))
  ·
   refine zq 22 (zn (dF (zQ 1 (zn (aA (aH [4] [(.bool false)] (fun W' hM => ?_)))))))
   refine ⟨?_,hM.below⟩
   rw [show eqT t u = false from aCu.2 fun h => by have := h1; rw [h] at this; simp at this]
   rfl
  ·
   have h1d := bne_eq_false_iff_eq.1 h1
   refine cU [0,1,0,2] [(b0,1),(b1,1)] (cH (.bool (!(t.s == u.s))) (mN _ _ _ _ rfl t.s u.s kR kR) ?_)
   refine zq 2 (aK 25 (!(t.s == u.s)) (fun h2 => ?_) (fun h2 => ?_))
   ·
    refine zq 15 (zn (dF (zQ 1 (zn (aA (aH [4] [(.bool false)] (fun W' hM => ?_)))))))
    refine ⟨?_,hM.below⟩
    rw [show eqT t u = false from aCu.2 fun h => by have := h2; rw [h] at this; simp at this]
    rfl
   ·
    refine cU [0,1,0,2,0,0,0] [(b0,1),(b1,1)] (aK 32 (!(t.o == u.o)) (fun h3 => ?_) (fun h3 => ?_))
    ·
     refine zq 8 (zn (dF (zQ 1 (zn (aA (aH [4] [(.bool false)] (fun W' hM => ?_)))))))
     refine ⟨?_,hM.below⟩
     rw [show eqT t u = false from aCu.2 fun h => by have := h3; rw [h] at this; simp at this]
     rfl
    ·
     refine cU [0,1,0,0,2,0,0,0] [(b0,1),(b1,1)] (zn (cD ((t.l.length : Int) != (u.l.length : Int)) (fun h4 => ?_) (fun h4 => ?_)))
     ·
      refine zQ 1 (zn (aA (aH [4] [(.bool false)] (fun W' hM => ?_))))
      refine ⟨?_,hM.below⟩
      rw [show eqT t u = false from aCu.2 fun h => by have := h4; rw [h] at this; simp at this]
      rfl
     ·
      have h4d := bne_eq_false_iff_eq.1 h4
      refine zk (zs (zs (zr ?_)))
      have hK : t.k = u.k := by have := h0; simpa using this
      have hN : t.n = u.n := by have := h1; simp at this; omega
      have hS : t.s = u.s := by have := h2; simpa using this
      have hO : t.o = u.o := by have := h3; simpa using this
      have hLn : t.l.length = u.l.length := by have := h4; simp at this; omega
      refine cU [0,1,0,0] [(b0,1)] (zn (aB (gX (α := Nat) (fun x => [2,3,4,43,44].zip [(Pt b0 0),(Pt b1 0),(.bool false),(L6 t.l.length),(L6 x)]) (fun x => U) (fun x => [(bK b0 (tC t a c) 89),(bK b1 (tC u b d) 89)]) (fun x => x ≤ t.l.length ∧ eqL (t.l.drop x) (u.l.drop x) = eqT t u) (fun x => t.l.length - x) 0 ?_ ?_)))
      · exact ⟨Nat.zero_le _,by rw [List.drop_zero,List.drop_zero]; exact (aJB t u hK hN hS hO).symm⟩
      intro x hx
      obtain ⟨hx1,hx2⟩ := hx
      refine zQ 1 (zn (zs (cD (decide ((x : Int) < (t.l.length : Int))) (fun h5 => ?_) (fun h5 => ?_))))
      ·
       have h5d := of_decide_eq_true h5
       refine zk (zs (aB (zQ 2 (zn (zs ?_)))))
       obtain ⟨y2,hy2⟩ : ∃ y,(t.l)[x]? = some y := ⟨(t.l)[x]'oW,List.getElem?_eq_getElem _⟩
       obtain ⟨b2,f2,cs2,rfl,hU2,ht2⟩ := hts.at_ x y2 hy2
       obtain ⟨a2,c2,rfl,hts2,hn2,hs2,hl2⟩ := ht2.form
       obtain ⟨y3,hy3⟩ : ∃ y,(u.l)[x]? = some y := ⟨(u.l)[x]'oW,List.getElem?_eq_getElem _⟩
       obtain ⟨b3,f3,cs3,rfl,hU3,ht3⟩ := hus.at_ x y3 hy3
       obtain ⟨a3,c3,rfl,hts3,hn3,hs3,hl3⟩ := ht3.form
       have hyr := List.all_eq_true.1 hr y2 (List.mem_of_getElem? hy2)
       refine gU 4 [0,3,0,1,1,0,4,0,1,1] [(b0,1),(b1,1)] [.val (Pt b2 (f2 + x * 5)),.val (tV y2 a2 c2),.val (Pt b3 (f3 + x * 5)),.val (tV y3 a3 c3)] ⟨?_,?_,?_,?_,trivial⟩ ?_
       · exact vR (rIx 89 rfl b2 f2 t.l.length c x 5)
       · exact vU b2 (f2 + x * 5) (tC y2 a2 c2) hU2 89 _ _ Tryz.underlying89 rfl
       · exact vR (rIx 89 rfl b3 f3 u.l.length d x 5)
       · exact vU b3 (f3 + x * 5) (tC y3 a3 c3) hU3 89 _ _ Tryz.underlying89 rfl
       refine dA 243 #[(tV y2 a2 c2),(tV y3 a3 c3)] (.bool (eqT y2 y3)) (fun W hM => ih _ _ _ _ W hM.view ht2 ht3 hyr) ?_
       refine zq 1 (zn (cD (!(eqT y2 y3)) (fun h6 => ?_) (fun h6 => ?_)))
       ·
        refine zQ 1 (zn (aA (aH [4] [(.bool false)] (fun W' hM => ?_))))
        refine ⟨?_,hM.below⟩
        rw [← hx2,aGl hy2 hy3,show eqT y2 y3 = false by simpa using h6]
        rfl
       ·
        refine zk (zr (zq 1 (eV 59 ((x : Int) + 1) (zq 1 (zn ?_)))))
        refine nx (x + 1) ?_ ?_
        · exact ⟨by omega,by rw [← hx2,aGl hy2 hy3,show eqT y2 y3 = true by simpa using h6,Bool.true_and]⟩
        · show t.l.length - (x + 1) < t.l.length - x; omega
      ·
       have h5d := of_decide_eq_false h5
       refine aU (zQ 1 (zn (aA (aH [4] [(.bool true)] (fun W' hM => ?_)))))
       refine ⟨?_,hM.below⟩
       rw [← hx2,List.drop_eq_nil_of_le oW,List.drop_eq_nil_of_le oW,show eqL [] [] = true by unfold eqL; simp]
       rfl
theorem aDC : ∀ (n : Nat) (t u : Itm.Tr) (cs ds : List Value) (w : World) {U : View}, (∀ a v, U a = some v → w.cell? a = some v) → TV U t cs → TV U u ds → Itm.aN n t = true → CP 243 #[.agg cs.toArray, .agg ds.toArray] w (Ret (.bool (eqT t u)) w)
 | 0, t, u, cs, ds, w, U, _, _, _, hr => by cases hr
 | n + 1, t, u, cs, ds, w, U, hU, h, h2, hr => by
  obtain ⟨a, c, rfl, hts, _, _, _⟩ := h.form
  obtain ⟨b, d, rfl, hus, _, _, _⟩ := h2.form
  rw [Itm.aN, Bool.and_eq_true] at hr
  exact aGO n (aDC n) t u a b c d w hU hts hus hr.2
noncomputable def tW (t u : Itm.Tr) : Bool := if Itm.aN 8 t then (if Itm.aN 8 u then eqT t u else false) else false
theorem aCo (t u : Itm.Tr) (cs ds : List Value) (w : World) {U : View} (hU : See U w) (h : TV U t cs) (h2 : TV U u ds) : CP 219 #[.agg cs.toArray, .agg ds.toArray] w (Ret (.bool (tW t u)) w) := by
 have hT0 := h
 have hU0 := h2
 obtain ⟨a,c,rfl,hts,_,_,_⟩ := h.form
 obtain ⟨b,d,rfl,hus,_,_,_⟩ := h2.form
 refine eG 16 Tryz.func219 hU ?_
 refine zs (zr (cJ (fun b0 => (cJ (fun b1 => (zq 1 (zn (zB [1] [(b0,5)] (dA 179 #[(tV t a c)] (.bool (Itm.aN 8 t)) (fun W hM => lO t _ W hM.view hT0) ?_)))))))))
 refine zq 1 (aK 7 (Itm.aN 8 t) (fun h0 => ?_) (fun h0 => ?_))
 ·
  refine cU [2] [(b1,5)] (dA 179 #[(tV u b d)] (.bool (Itm.aN 8 u)) (fun W hM => lO u _ W hM.view hU0) ?_)
  refine zq 2 (aK 11 (Itm.aN 8 u) (fun h1 => ?_) (fun h1 => ?_))
  ·
   refine cU [1,2] [(b0,5),(b1,5)] (dA 243 #[(tV t a c),(tV u b d)] (.bool (eqT t u)) (fun W hM => aDC 8 t u _ _ W hM.view hT0 hU0 h0) ?_)
   refine zq 2 (zn (aA (aH [4] [(.bool (eqT t u))] (fun W' hM => ?_))))
   exact ⟨by simp only [cG,tW,h0,h1,bs,bQ,reduceIte],hM.below⟩
  ·
   refine zq 5 (zn (aA (aH [4] [(.bool false)] (fun W' hM => ?_))))
   exact ⟨by simp only [cG,tW,h0,h1,bs,bQ,reduceIte],hM.below⟩
 ·
  refine zq 9 (zn (aA (aH [4] [(.bool false)] (fun W' hM => ?_))))
  exact ⟨by simp only [cG,tW,h0,bs,bQ,reduceIte],hM.below⟩
end Go.Proofs.YtcdjakemdlinhaaGreatDoor.Sx
