/-
  Several texts in one: Pt1 Asd Ast Sx21 Asb1 Asb2 Asb3 Asb4 Asb5.
  Conditions: named at each.
-/
import Derived.Test.YtcdjakemdlinhaaGreatDoorG07
set_option linter.unusedSimpArgs false
set_option linter.unusedVariables false
set_option linter.unusedSectionVars false
namespace Go.Proofs.YtcdjakemdlinhaaGreatDoor.Sx
open Go.ChangeShapes Go.WideShapes Go.ChangeAt Go.RowKit Go.Deep
def closedF (f : List UInt8 → Option (Itm.Tr × Nat)) : Nat → List UInt8 → Option (List Itm.Tr × Nat)
 | 0, _ => some ([], 0)
 | n + 1, s => match f s with
  | none => none
  | some (t, k) => match closedF f n (s.drop k) with
   | none => none
   | some (ts, j) => some (t :: ts, k + j)
def openF (f : List UInt8 → Option (Itm.Tr × Nat)) : Nat → List UInt8 → Option (List Itm.Tr × Nat)
 | 0, s => if brkB s then some ([], 1) else none
 | n + 1, s => if brkB s then some ([], 1) else match f s with
  | none => none
  | some (t, k) => match openF f n (s.drop k) with
   | none => none
   | some (ts, j) => some (t :: ts, k + j)
def strT2 (m : Int) (x : List UInt8 × Rd) : Option (Itm.Tr × Nat) := if x.2.e == 0 then some (.mk m 0 x.1 [] false, x.2.at_) else none
def arrT2 (o : Bool) (z : Nat) : Option (List Itm.Tr × Nat) → Option (Itm.Tr × Nat)
 | none => none
 | some (l, k) => some (.mk 4 0 [] l o, z + k)
def itF : Nat → List UInt8 → Option (Itm.Tr × Nat)
 | 0, _ => none
 | d + 1, s => match hdF s with
  | none => none
  | some (m, n, o, z) =>
   if m = 0 then some (.mk 0 n [] [] false, z)
   else if m = 2 then strT2 2 (strF s n z o 1073741824)
   else if m = 3 then strT2 3 (strF s n z o 1073741824)
   else if m = 4 then (if o then arrT2 true z (openF (itF d) 1000 (s.drop z)) else if n ≤ 1000 then arrT2 false z (closedF (itF d) n (s.drop z)) else none)
   else none
theorem joinN_lt64 {l : List UInt8} (h : l.length ≤ 8) : joinN 0 l < 18446744073709551616 := by
 have h1 := joinN_lt l 0 0 (by simp)
 have h2 : 256 ^ (0 + l.length) ≤ 256 ^ 8 := Nat.pow_le_pow_right (by decide) (by omega)
 have h3 : (256 : Nat) ^ 8 = 18446744073709551616 := by decide
 omega
theorem hdF_lt {s : List UInt8} {m n z : Nat} {o : Bool} (h : hdF s = some (m, n, o, z)) : n < 18446744073709551616 ∧ m < 8 := by
 unfold hdF at h
 split at h
 · cases h
 ·
  next c hc =>
  have hc2 := c.toNat_lt
  unfold hd1 at h
  split at h
  ·
   simp only [Option.some.injEq, Prod.mk.injEq] at h
   omega
  ·
   split at h
   ·
    simp only [Option.some.injEq, Prod.mk.injEq] at h
    omega
   ·
    split at h
    · cases h
    ·
     unfold hd2 at h
     split at h
     · cases h
     ·
      split at h
      · cases h
      ·
       simp only [Option.some.injEq, Prod.mk.injEq] at h
       obtain ⟨rfl, rfl, -, -⟩ := h
       refine ⟨joinN_lt64 ?_, by omega⟩
       rw [List.length_take]
       have : 2 ^ (c.toNat % 32 - 24) ≤ 2 ^ 3 := Nat.pow_le_pow_right (by decide) (by omega)
       omega
theorem brkB_pos {s : List UInt8} (h : brkB s = true) : 1 ≤ s.length := by
 unfold brkB at h
 split at h
 ·
  next m n o z hx =>
  have := hdF_len hx
  omega
 · cases h
theorem closedF_len {f : List UInt8 → Option (Itm.Tr × Nat)} (hf : ∀ s t k, f s = some (t, k) → k ≤ s.length) : ∀ (n : Nat) (s : List UInt8) (l : List Itm.Tr) (k : Nat), closedF f n s = some (l, k) → k ≤ s.length ∧ l.length = n
 | 0, s, l, k, h => by
  rw [closedF] at h
  simp only [Option.some.injEq, Prod.mk.injEq] at h
  obtain ⟨rfl, rfl⟩ := h
  exact ⟨Nat.zero_le _, rfl⟩
 | n + 1, s, l, k, h => by
  rw [closedF] at h
  split at h
  · cases h
  ·
   next t k1 h1 =>
   split at h
   · cases h
   ·
    next ts j h2 =>
    simp only [Option.some.injEq, Prod.mk.injEq] at h
    obtain ⟨rfl, rfl⟩ := h
    have a1 := hf _ _ _ h1
    have a2 := closedF_len hf n _ _ _ h2
    rw [List.length_drop] at a2
    exact ⟨by omega, by rw [List.length_cons, a2.2]⟩
theorem openF_len {f : List UInt8 → Option (Itm.Tr × Nat)} (hf : ∀ s t k, f s = some (t, k) → k ≤ s.length) : ∀ (n : Nat) (s : List UInt8) (l : List Itm.Tr) (k : Nat), openF f n s = some (l, k) → k ≤ s.length ∧ l.length ≤ n
 | 0, s, l, k, h => by
  rw [openF] at h
  split at h
  ·
   next hb =>
   simp only [Option.some.injEq, Prod.mk.injEq] at h
   obtain ⟨rfl, rfl⟩ := h
   exact ⟨brkB_pos hb, Nat.le_refl _⟩
  · cases h
 | n + 1, s, l, k, h => by
  rw [openF] at h
  split at h
  ·
   next hb =>
   simp only [Option.some.injEq, Prod.mk.injEq] at h
   obtain ⟨rfl, rfl⟩ := h
   exact ⟨brkB_pos hb, Nat.zero_le _⟩
  ·
   split at h
   · cases h
   ·
    next t k1 h1 =>
    split at h
    · cases h
    ·
     next ts j h2 =>
     simp only [Option.some.injEq, Prod.mk.injEq] at h
     obtain ⟨rfl, rfl⟩ := h
     have a1 := hf _ _ _ h1
     have a2 := openF_len hf n _ _ _ h2
     rw [List.length_drop] at a2
     exact ⟨by omega, by rw [List.length_cons]; omega⟩
theorem strF_len {s : List UInt8} {m n z most : Nat} {o : Bool} (h : hdF s = some (m, n, o, z)) : (strF s n z o most).2.at_ ≤ s.length ∧ (strF s n z o most).1.length ≤ s.length := by
 have hz := hdF_len h
 unfold strF
 split
 · exact ⟨Nat.zero_le _, Nat.zero_le _⟩
 ·
  split
  · exact ⟨Nat.zero_le _, Nat.zero_le _⟩
  ·
   next h1 =>
   simp only [decide_eq_true_eq] at h1
   split
   · exact ⟨Nat.zero_le _, Nat.zero_le _⟩
   ·
    refine ⟨?_, ?_⟩
    ·
     show z + n ≤ s.length
     omega
    ·
     show ((s.drop z).take n).length ≤ _
     rw [List.length_take, List.length_drop]
     omega
theorem itF_len : ∀ (d : Nat) (s : List UInt8) (t : Itm.Tr) (k : Nat), itF d s = some (t, k) → k ≤ s.length
 | 0, s, t, k, h => by rw [itF] at h; cases h
 | d + 1, s, t, k, h => by
  rw [itF] at h
  split at h
  · cases h
  ·
   next m n o z hx =>
   have hz := hdF_len hx
   split at h
   ·
    simp only [Option.some.injEq, Prod.mk.injEq] at h
    omega
   ·
    split at h
    ·
     unfold strT2 at h
     split at h
     ·
      simp only [Option.some.injEq, Prod.mk.injEq] at h
      rw [← h.2]
      exact (strF_len hx).1
     · cases h
    ·
     split at h
     ·
      unfold strT2 at h
      split at h
      ·
       simp only [Option.some.injEq, Prod.mk.injEq] at h
       rw [← h.2]
       exact (strF_len hx).1
      · cases h
     ·
      split at h
      ·
       split at h
       ·
        cases hq : openF (itF d) 1000 (s.drop z) with
        | none => rw [hq] at h; cases h
        | some q =>
         obtain ⟨l, j⟩ := q
         rw [hq] at h
         simp only [arrT2, Option.some.injEq, Prod.mk.injEq] at h
         have := (openF_len (itF_len d) _ _ _ _ hq).1
         rw [List.length_drop] at this
         omega
       ·
        split at h
        ·
         cases hq : closedF (itF d) n (s.drop z) with
         | none => rw [hq] at h; cases h
         | some q =>
          obtain ⟨l, j⟩ := q
          rw [hq] at h
          simp only [arrT2, Option.some.injEq, Prod.mk.injEq] at h
          have := (closedF_len (itF_len d) _ _ _ _ hq).1
          rw [List.length_drop] at this
          omega
        · cases h
      · cases h
theorem joinN_dg (n : Nat) : ∀ (k a : Nat), joinN a (Itm.dg n k) = a * 256 ^ k + n % 256 ^ k
 | 0, a => by simp [Itm.dg, joinN, Nat.mod_one]
 | k + 1, a => by
  have h := joinN_dg n k (a * 256 + (UInt8.ofNat (n / 256 ^ k)).toNat)
  rw [Itm.dg]
  show joinN (a * 256 + (UInt8.ofNat (n / 256 ^ k)).toNat) (Itm.dg n k) = _
  rw [h]
  have e : (UInt8.ofNat (n / 256 ^ k)).toNat = n / 256 ^ k % 256 := by simp
  rw [e, Nat.pow_succ]
  have h1 : n % (256 ^ k * 256) = n % 256 ^ k + 256 ^ k * (n / 256 ^ k % 256) := Nat.mod_mul
  rw [h1, Nat.add_mul, Nat.mul_assoc, Nat.mul_comm 256 (256 ^ k), Nat.mul_comm (n / 256 ^ k % 256) (256 ^ k)]
  omega
theorem hdF_headB (m n : Nat) (r : List UInt8) (hm : m ≤ 7) (hn : n < 18446744073709551616) : hdF (Itm.headB m n ++ r) = some (m, n, false, (Itm.headB m n).length) := by
 have hlen : (Itm.headB m n).length = 1 + Itm.lenN n := by rw [Itm.headB_eq, List.length_cons, Itm.dg_length, Nat.add_comm]
 rw [hlen]
 have hs : Itm.headB m n ++ r = UInt8.ofNat (32 * m + Itm.codeN n) :: (Itm.dg n (Itm.lenN n) ++ r) := by rw [Itm.headB_eq, List.cons_append]
 have hcl := Itm.codeN_lt n
 have hb : (UInt8.ofNat (32 * m + Itm.codeN n)).toNat = 32 * m + Itm.codeN n := by
  rw [UInt8.toNat_ofNat']
  exact Nat.mod_eq_of_lt (by omega)
 unfold hdF
 rw [hs]
 simp only [List.getElem?_cons_zero]
 rw [hb, show (32 * m + Itm.codeN n) / 32 = m by omega, show (32 * m + Itm.codeN n) % 32 = Itm.codeN n by omega]
 by_cases h24 : n < 24
 ·
  have e1 : Itm.codeN n = n := by unfold Itm.codeN; rw [if_pos h24]
  have e2 : Itm.lenN n = 0 := by unfold Itm.lenN; rw [if_pos h24]
  unfold hd1
  rw [e1, if_pos h24, e2]
 ·
  have e1 : ¬ Itm.codeN n < 24 ∧ Itm.lenN n = 2 ^ (Itm.codeN n - 24) ∧ Itm.lenN n ≤ 8 ∧ n < 256 ^ Itm.lenN n := by
   unfold Itm.codeN Itm.lenN
   rw [if_neg h24, if_neg h24]
   by_cases a1 : n < 256
   · rw [if_pos a1, if_pos a1]; exact ⟨by omega, by decide, by decide, by omega⟩
   ·
    rw [if_neg a1, if_neg a1]
    by_cases a2 : n < 65536
    · rw [if_pos a2, if_pos a2]; exact ⟨by omega, by decide, by decide, by omega⟩
    ·
     rw [if_neg a2, if_neg a2]
     by_cases a3 : n < 4294967296
     · rw [if_pos a3, if_pos a3]; exact ⟨by omega, by decide, by decide, by omega⟩
     · rw [if_neg a3, if_neg a3]; exact ⟨by omega, by decide, by decide, by omega⟩
  obtain ⟨e1, e2, e3, e4⟩ := e1
  unfold hd1
  rw [if_neg e1, if_neg (by omega), if_neg (by omega), ← e2]
  unfold hd2
  have ht : ((UInt8.ofNat (32 * m + Itm.codeN n) :: (Itm.dg n (Itm.lenN n) ++ r)).drop 1).take (Itm.lenN n) = Itm.dg n (Itm.lenN n) := by
   rw [List.drop_succ_cons, List.drop_zero, List.take_left' (Itm.dg_length _ _)]
  have hj : joinN 0 (Itm.dg n (Itm.lenN n)) = n := by
   rw [joinN_dg, Nat.zero_mul, Nat.zero_add, Nat.mod_eq_of_lt e4]
  rw [ht, hj, hlen]
  have hl : (UInt8.ofNat (32 * m + Itm.codeN n) :: (Itm.dg n (Itm.lenN n) ++ r)).length = 1 + Itm.lenN n + r.length := by
   rw [List.length_cons, List.length_append, Itm.dg_length]; omega
  rw [hl, decide_eq_false (by omega)]
  simp
theorem hdF_31 (m : Nat) (r : List UInt8) (hm : m ≤ 7) (ho : opensB (m : Int) = true) : hdF (UInt8.ofNat (32 * m + 31) :: r) = some (m, 0, true, 1) := by
 have hb : (UInt8.ofNat (32 * m + 31)).toNat = 32 * m + 31 := by
  rw [UInt8.toNat_ofNat']
  exact Nat.mod_eq_of_lt (by omega)
 unfold hdF
 simp only [List.getElem?_cons_zero]
 rw [hb, show (32 * m + 31) / 32 = m by omega, show (32 * m + 31) % 32 = 31 by omega]
 unfold hd1
 rw [if_neg (by decide), if_pos ⟨rfl, ho⟩]
theorem brkB_255 (r : List UInt8) : brkB (255 :: r) = true := by
 have h := hdF_31 7 r (by decide) (by decide)
 have h' : hdF (255 :: r) = some (7, 0, true, 1) := h
 unfold brkB
 rw [h']
 rfl
theorem brkB_bytes {t : Itm.Tr} (h : Itm.plainB t = true) (hn : Itm.NOk t) (hl : t.l.length < 18446744073709551616) (r : List UInt8) : brkB (Itm.bytesB t ++ r) = false := by
 cases hn with
 | mk k n s l o hn hs hel =>
 unfold brkB
 cases Itm.form_of h with
 | num n => rw [Itm.bytes_num, hdF_headB 0 n r (by decide) hn]; rfl
 | str s => rw [Itm.bytes_str, List.append_assoc, hdF_headB 2 _ _ (by decide) hs]; rfl
 | text s => rw [Itm.bytes_text, List.append_assoc, hdF_headB 3 _ _ (by decide) hs]; rfl
 | arr l _ =>
  have hl2 : l.length < 18446744073709551616 := hl
  rw [Itm.bytes_arr, List.append_assoc, hdF_headB 4 _ _ (by decide) hl2]; rfl
 | opn l => rw [Itm.bytes_opn, List.cons_append, hdF_31 4 _ (by decide) (by decide)]; rfl
theorem closedF_bytes {f : List UInt8 → Option (Itm.Tr × Nat)} : ∀ (l : List Itm.Tr) (r : List UInt8), (∀ x ∈ l, ∀ r, f (Itm.bytesB x ++ r) = some (x, (Itm.bytesB x).length)) → closedF f l.length (Itm.bytesL l ++ r) = some (l, (Itm.bytesL l).length)
 | [], r, _ => by rw [List.length_nil, closedF, Itm.bytesL]; rfl
 | x :: l, r, h => by
  rw [List.length_cons, closedF, Itm.bytesL, List.append_assoc, h x (List.mem_cons_self) _]
  simp only
  rw [List.drop_left, closedF_bytes l r fun y hy => h y (List.mem_cons_of_mem _ hy)]
  simp only [List.length_append]
theorem openF_bytes {f : List UInt8 → Option (Itm.Tr × Nat)} : ∀ (l : List Itm.Tr) (m : Nat) (r : List UInt8), l.length ≤ m → (∀ x ∈ l, ∀ r, f (Itm.bytesB x ++ r) = some (x, (Itm.bytesB x).length)) → (∀ x ∈ l, ∀ r, brkB (Itm.bytesB x ++ r) = false) → openF f m (Itm.bytesL l ++ (255 :: r)) = some (l, (Itm.bytesL l).length + 1)
 | [], m, r, _, _, _ => by
  rw [Itm.bytesL, List.nil_append]
  cases m with
  | zero => rw [openF, if_pos (brkB_255 r)]; rfl
  | succ m => rw [openF, if_pos (brkB_255 r)]; rfl
 | x :: l, 0, r, hm, _, _ => by simp at hm
 | x :: l, m + 1, r, hm, h, hb => by
  rw [openF, Itm.bytesL, List.append_assoc, if_neg (by rw [hb x List.mem_cons_self]; exact Bool.false_ne_true), h x List.mem_cons_self _]
  simp only
  rw [List.drop_left, openF_bytes l m r (by rw [List.length_cons] at hm; omega) (fun y hy => h y (List.mem_cons_of_mem _ hy)) fun y hy => hb y (List.mem_cons_of_mem _ hy)]
  simp only [List.length_append, Nat.add_assoc]
theorem strF_bytes (k : Nat) (s r : List UInt8) (hl : s.length ≤ 1073741824) : strF (Itm.headB k s.length ++ (s ++ r)) s.length (Itm.headB k s.length).length false 1073741824 = (s, ⟨Itm.headB k s.length ++ (s ++ r), (Itm.headB k s.length).length + s.length, -1, 0, 0⟩) := by
 unfold strF
 rw [if_neg Bool.false_ne_true, if_neg (by rw [decide_eq_true_eq, List.length_append, List.length_append]; omega), if_neg (by rw [decide_eq_true_eq]; omega), List.drop_left, List.take_left]
theorem bytesL_mem {l : List Itm.Tr} {x : Itm.Tr} (h : x ∈ l) : (Itm.bytesB x).length ≤ (Itm.bytesL l).length := by
 induction l with
 | nil => cases h
 | cons y l ih =>
  rw [Itm.bytesL, List.length_append]
  rcases List.mem_cons.1 h with rfl | h
  · omega
  ·
   have := ih h
   omega
theorem right_mem {d : Nat} {t x : Itm.Tr} (h : Itm.rightT (d + 1) t = true) (hx : x ∈ t.l) : Itm.rightT d x = true := by
 rw [Itm.rightT, Bool.and_eq_true, List.all_eq_true] at h
 exact h.2 x hx
theorem right_plain {d : Nat} {t : Itm.Tr} (h : Itm.rightT d t = true) : Itm.plainB t = true := by
 rw [Itm.rightT_eq, Bool.and_eq_true] at h
 exact h.2
theorem right_len {d : Nat} {t : Itm.Tr} (h : Itm.rightT d t = true) : t.l.length ≤ 1000 := by
 cases d with
 | zero => cases h
 | succ d =>
  rw [Itm.rightT, Bool.and_eq_true] at h
  rcases Itm.okN_true h.1 with ⟨_, _, h, _⟩ | ⟨_, _, h, _⟩ | ⟨_, _, h, _⟩ | ⟨_, _, _, h⟩ <;> omega
theorem itF_bytes : ∀ (d : Nat) (t : Itm.Tr) (r : List UInt8), Itm.rightT d t = true → Itm.NOk t → (Itm.bytesB t).length ≤ 1073741824 → itF d (Itm.bytesB t ++ r) = some (t, (Itm.bytesB t).length)
 | 0, t, r, h, _, _ => by cases h
 | d + 1, t, r, h, hn, hb => by
  have hlen := right_len h
  have hpl := right_plain h
  have hsub : ∀ x ∈ t.l, Itm.rightT d x = true := fun x hx => right_mem h hx
  cases hn with
  | mk k n s l o hn hs hel =>
  have helm : ∀ x ∈ l, Itm.NOk x := fun x hx => by
   obtain ⟨i, hi⟩ := List.mem_iff_getElem?.1 hx
   exact hel i x hi
  have hsub' : ∀ x ∈ l, Itm.rightT d x = true := hsub
  have hlen' : l.length ≤ 1000 := hlen
  rw [itF]
  cases Itm.form_of hpl with
  | num n =>
   rw [Itm.bytes_num, hdF_headB 0 n r (by decide) hn]
   rfl
  | str s =>
   rw [Itm.bytes_str, List.length_append] at hb
   rw [Itm.bytes_str, List.append_assoc, hdF_headB 2 _ _ (by decide) hs]
   simp only [Nat.reduceEqDiff, if_false, if_true]
   rw [strF_bytes 2 s r (by omega)]
   simp [strT2]
  | text s =>
   rw [Itm.bytes_text, List.length_append] at hb
   rw [Itm.bytes_text, List.append_assoc, hdF_headB 3 _ _ (by decide) hs]
   simp only [Nat.reduceEqDiff, if_false, if_true]
   rw [strF_bytes 3 s r (by omega)]
   simp [strT2]
  | arr l _ =>
   rw [Itm.bytes_arr, List.length_append] at hb
   rw [Itm.bytes_arr, List.append_assoc, hdF_headB 4 _ _ (by decide) (by omega)]
   simp only [Nat.reduceEqDiff, if_false, if_true, Bool.false_eq_true]
   rw [if_pos hlen', List.drop_left, closedF_bytes l r fun x hx r => itF_bytes d x r (hsub' x hx) (helm x hx) (Nat.le_trans (bytesL_mem hx) (by omega))]
   simp [arrT2]
  | opn l =>
   rw [Itm.bytes_opn, List.length_cons, List.length_append] at hb
   rw [Itm.bytes_opn, List.cons_append, hdF_31 4 _ (by decide) (by decide)]
   simp only [Nat.reduceEqDiff, if_false, if_true]
   rw [List.drop_succ_cons, List.drop_zero, List.append_assoc, List.singleton_append, openF_bytes l 1000 r hlen' (fun x hx r => itF_bytes d x r (hsub' x hx) (helm x hx) (Nat.le_trans (bytesL_mem hx) (by omega))) fun x hx r => brkB_bytes (right_plain (hsub' x hx)) (helm x hx) (by have := right_len (hsub' x hx); omega) r]
   simp only [arrT2, List.length_cons, List.length_append, List.length_nil, Option.some.injEq, Prod.mk.injEq, true_and]
   omega
structure Pa where
 id : Int
 v : Itm.Tr
structure As where
 t : List Int
 c : Int
 s : Ei
 p : List Pa
 r : List (List Pa)
def Pa.tree (p : Pa) : Itm.Tr := Itm.arrT [Itm.numT p.id.toNat, p.v]
def pasT (l : List Pa) : Itm.Tr := Itm.arrT (l.map Pa.tree)
def tgtT (l : List Int) : Itm.Tr := Itm.arrT (l.map fun n => Itm.numT n.toNat)
def As.items (a : As) : List Itm.Tr :=
 if a.p.length = 0 then [tgtT a.t, Itm.numT a.c.toNat, Itm.numT 0, a.s.tree, Itm.arrT (a.r.map pasT)]
 else [tgtT a.t, Itm.numT a.c.toNat, Itm.numT 1, a.s.tree, pasT a.p, Itm.arrT (a.r.map pasT)]
def As.bytes (a : As) : List UInt8 := Itm.bytesL a.items
def asCoded (n : Int) : Bool := decide (n ≥ 0) && decide (n ≤ 65535)
def unlikeG (pre : List Int) : List Int → Bool
 | [] => true
 | n :: r => if !asCoded n || pre.contains n then false else unlikeG (pre ++ [n]) r
def unlikeB (l : List Int) : Bool := unlikeG [] l
def paB (p : Pa) : Bool := ((p.v.k == 0) || (p.v.k == 2)) && Itm.rightT 8 p.v
def pairsB (l : List Pa) : Bool := l.all paB && unlikeB (l.map Pa.id)
def resB (l : List Pa) : Bool := decide (1 ≤ l.length) && decide (l.length ≤ 4) && pairsB l
def shapedB (a : As) : Bool := decide (1 ≤ a.t.length) && decide (a.t.length ≤ 16) && unlikeB a.t && asCoded a.c && eiRight a.s && decide (a.p.length ≤ 8) && pairsB a.p && decide (a.r.length = a.t.length) && a.r.all resB
def As.right (a : As) : Bool := shapedB a && decide (a.bytes.length ≤ 4000)
structure As.ok (a : As) : Prop where
 s : a.s.ok
 p : ∀ x ∈ a.p, Itm.NOk x.v
 r : ∀ l ∈ a.r, ∀ x ∈ l, Itm.NOk x.v
theorem asCoded_true {n : Int} (h : asCoded n = true) : 0 ≤ n ∧ n ≤ 65535 := by
 unfold asCoded at h
 simp only [Bool.and_eq_true, decide_eq_true_eq] at h
 omega
theorem unlikeG_coded : ∀ (l pre : List Int), unlikeG pre l = true → ∀ n ∈ l, asCoded n = true
 | [], _, _, n, hn => by cases hn
 | m :: r, pre, h, n, hn => by
  rw [unlikeG] at h
  split at h
  · cases h
  ·
   next hc =>
   rcases List.mem_cons.1 hn with rfl | hn
   ·
    cases hx : asCoded n with
    | true => rfl
    | false => rw [hx] at hc; simp at hc
   · exact unlikeG_coded r _ h n hn
theorem unlikeB_coded {l : List Int} (h : unlikeB l = true) : ∀ n ∈ l, 0 ≤ n ∧ n ≤ 65535 := fun n hn => asCoded_true (unlikeG_coded l [] h n hn)
def mapO {α β : Type} (f : α → Option β) : List α → Option (List β)
 | [] => some []
 | x :: l => match f x with
  | none => none
  | some y => match mapO f l with
   | none => none
   | some r => some (y :: r)
theorem mapO_map {α β : Type} {f : α → Option β} {g : β → α} : ∀ (l : List β), (∀ y ∈ l, f (g y) = some y) → mapO f (l.map g) = some l
 | [], _ => rfl
 | y :: l, h => by
  rw [List.map_cons, mapO, h y List.mem_cons_self, mapO_map l fun z hz => h z (List.mem_cons_of_mem _ hz)]
def numR (x : Itm.Tr) : Option Int := if x.k == 0 then some ((min x.n 65536 : Nat) : Int) else none
def pairR (y : Itm.Tr) : Option Pa := match y.l with
 | [u, v] => match numR u with
  | none => none
  | some n => some ⟨n, v⟩
 | _ => none
def pairsR (x : Itm.Tr) : Option (List Pa) := mapO pairR x.l
def tgtR (x : Itm.Tr) : Option (List Int) := mapO numR x.l
def resR (x : Itm.Tr) : Option (List (List Pa)) := mapO pairsR x.l
open Classical in
noncomputable def ofE (t : Itm.Tr) : Option Ei := if Itm.OfP t (Itm.readT t) then some ⟨(Itm.readT t).s, (Itm.readT t).l, (Itm.readT t).n, (Itm.readT t).v⟩ else none
noncomputable def asR3 (t : List Int) (c : Int) (s : Ei) (p : List Pa) (r : Itm.Tr) : Option As := match resR r with
 | none => none
 | some r => some ⟨t, c, s, p, r⟩
noncomputable def asR2 (l : List Itm.Tr) (t : List Int) (c : Int) (s : Ei) : Option As := match l with
 | [r] => asR3 t c s [] r
 | [p, r] => match pairsR p with
  | none => none
  | some p => asR3 t c s p r
 | _ => none
noncomputable def asR1 (l : List Itm.Tr) (t : List Int) (c : Int) : Option As := match l with
 | _ :: s :: l => match ofE s with
  | none => none
  | some s => asR2 l t c s
 | _ => none
noncomputable def asR (l : List Itm.Tr) : Option As := if l.length = 5 ∨ l.length = 6 then (match l with
 | t :: c :: l => match tgtR t with
  | none => none
  | some t => match numR c with
   | none => none
   | some c => asR1 l t c
 | _ => none) else none
theorem numR_num {n : Int} (h : 0 ≤ n ∧ n ≤ 65535) : numR (Itm.numT n.toNat) = some n := by
 have e : min n.toNat 65536 = n.toNat := Nat.min_eq_left (by omega)
 show (if (0 : Int) == 0 then some ((min n.toNat 65536 : Nat) : Int) else none) = some n
 rw [e]
 show some ((n.toNat : Nat) : Int) = some n
 congr 1
 omega
theorem tgtR_tgt {l : List Int} (h : ∀ n ∈ l, 0 ≤ n ∧ n ≤ 65535) : tgtR (tgtT l) = some l := mapO_map l fun n hn => numR_num (h n hn)
theorem pairsB_coded {l : List Pa} (h : pairsB l = true) : ∀ p ∈ l, 0 ≤ p.id ∧ p.id ≤ 65535 := fun p hp => by
 unfold pairsB at h
 rw [Bool.and_eq_true] at h
 exact unlikeB_coded h.2 p.id (List.mem_map_of_mem hp)
theorem pairsR_pas {l : List Pa} (h : ∀ p ∈ l, 0 ≤ p.id ∧ p.id ≤ 65535) : pairsR (pasT l) = some l := mapO_map l fun p hp => by
 show (match numR (Itm.numT p.id.toNat) with | none => none | some n => some (⟨n, p.v⟩ : Pa)) = some p
 rw [numR_num (h p hp)]
theorem ofE_tree {e : Ei} (h : eiRight e = true) (hr : Itm.rightT 8 e.tree = true) : ofE e.tree = some e := by
 obtain ⟨s, l, n, v⟩ := e
 have hs : s = 1 ∨ s = 2 := by
  unfold eiRight Eid.rightB at h
  simp only at h
  split at h
  · next hs => exact .inl hs
  ·
   split at h
   · next hs => exact .inr hs
   · cases h
 obtain ⟨k, rfl⟩ : ∃ k : Nat, s = (k : Int) := by
  rcases hs with rfl | rfl
  · exact ⟨1, rfl⟩
  · exact ⟨2, rfl⟩
 have hk : k = 1 ∨ k = 2 := by omega
 have ht : (⟨(k : Int), l, n, v⟩ : Ei).tree = (⟨k, l, n, v⟩ : Itm.Nm).tree := by
  unfold Ei.tree Itm.Nm.tree Itm.nameT Itm.twoT
  rcases hk with rfl | rfl
  ·
   by_cases hl : l = [110, 111, 110, 101]
   · subst hl; rfl
   ·
    have hb : (l == [110, 111, 110, 101]) = false := beq_eq_false_iff_ne.2 hl
    simp only [hb, hl]
    rfl
  · rfl
 have h' : (⟨k, l, n, v⟩ : Itm.Nm).right = true := h
 have hrd := Itm.readT_tree h'
 unfold ofE
 rw [ht] at hr ⊢
 rw [hrd, if_pos ⟨h', hr, rfl⟩]
theorem asR_items {a : As} (h : shapedB a = true) (hn : Itm.rightT 8 a.s.tree = true) : asR a.items = some a := by
 unfold shapedB at h
 simp only [Bool.and_eq_true, decide_eq_true_eq] at h
 obtain ⟨⟨⟨⟨⟨⟨⟨⟨h1, h2⟩, h3⟩, h4⟩, h5⟩, h6⟩, h7⟩, h8⟩, h9⟩ := h
 have t1 := tgtR_tgt (unlikeB_coded h3)
 have t2 := numR_num (asCoded_true h4)
 have t3 := ofE_tree h5 hn
 have t4 := pairsR_pas (pairsB_coded h7)
 have t5 : resR (Itm.arrT (a.r.map pasT)) = some a.r := mapO_map a.r fun l hl => pairsR_pas (pairsB_coded (by
  have := List.all_eq_true.1 h9 l hl
  unfold resB at this
  rw [Bool.and_eq_true] at this
  exact this.2))
 obtain ⟨t, c, s, p, r⟩ := a
 unfold As.items
 simp only at t1 t2 t3 t4 t5 ⊢
 by_cases hp : p.length = 0
 ·
  obtain rfl := List.length_eq_zero_iff.1 hp
  rw [if_pos hp]
  unfold asR
  rw [if_pos (.inl rfl)]
  simp only [t1, t2, asR1, t3, asR2, asR3, t5]
 ·
  rw [if_neg hp]
  unfold asR
  rw [if_pos (.inr rfl)]
  simp only [t1, t2, asR1, t3, asR2, t4, asR3, t5]
theorem rightT_arr {d : Nat} {l : List Itm.Tr} (hl : l.length ≤ 1000) (h : ∀ x ∈ l, Itm.rightT d x = true) : Itm.rightT (d + 1) (Itm.arrT l) = true := by
 rw [Itm.rightT, Bool.and_eq_true, List.all_eq_true]
 refine ⟨?_, h⟩
 show Itm.okN 4 0 [] l.length false = true
 unfold Itm.okN
 simp [hl]
theorem rightT_num (d n : Nat) : Itm.rightT (d + 1) (Itm.numT n) = true := by
 rw [Itm.rightT]
 rfl
theorem rightT_leaf {v : Itm.Tr} {d : Nat} (hk : (v.k == 0 || v.k == 2) = true) (h : Itm.rightT 8 v = true) : Itm.rightT (d + 1) v = true := by
 rw [Itm.rightT, Bool.and_eq_true] at h ⊢
 refine ⟨h.1, ?_⟩
 have hl : v.l.length = 0 := by
  rcases Itm.okN_true h.1 with ⟨_, _, h, _⟩ | ⟨_, _, h, _⟩ | ⟨_, _, h, _⟩ | ⟨h, _⟩
  · exact h
  · exact h
  · exact h
  · rw [h] at hk; cases hk
 rw [List.length_eq_zero_iff.1 hl]
 rfl
theorem pasT_right {d : Nat} {l : List Pa} (hl : l.length ≤ 1000) (h : pairsB l = true) : Itm.rightT (d + 3) (pasT l) = true := by
 unfold pairsB at h
 rw [Bool.and_eq_true] at h
 refine rightT_arr (by rw [List.length_map]; exact hl) fun x hx => ?_
 obtain ⟨p, hp, rfl⟩ := List.mem_map.1 hx
 refine rightT_arr (by simp) fun y hy => ?_
 have hpa := List.all_eq_true.1 h.1 p hp
 unfold paB at hpa
 rw [Bool.and_eq_true] at hpa
 simp only [List.mem_cons, List.mem_nil_iff, or_false] at hy
 rcases hy with rfl | rfl
 · exact rightT_num d _
 · exact rightT_leaf hpa.1 hpa.2
theorem eiTree_right (d : Nat) (e : Ei) : Itm.rightT (d + 3) e.tree = true := by
 have ht : ∀ (k : Nat) (l : List UInt8), Itm.rightT (k + 1) (txtT l) = true := fun k l => by rw [Itm.rightT]; rfl
 unfold Ei.tree
 split
 ·
  refine rightT_arr (by simp) fun x hx => ?_
  simp only [List.mem_cons, List.mem_nil_iff, or_false] at hx
  rcases hx with rfl | rfl
  · exact rightT_num _ _
  ·
   refine rightT_arr (by simp) fun x hx => ?_
   simp only [List.mem_cons, List.mem_nil_iff, or_false] at hx
   rcases hx with rfl | rfl <;> exact rightT_num _ _
 ·
  split
  ·
   refine rightT_arr (by simp) fun x hx => ?_
   simp only [List.mem_cons, List.mem_nil_iff, or_false] at hx
   rcases hx with rfl | rfl <;> exact rightT_num _ _
  ·
   refine rightT_arr (by simp) fun x hx => ?_
   simp only [List.mem_cons, List.mem_nil_iff, or_false] at hx
   rcases hx with rfl | rfl
   · exact rightT_num _ _
   · exact ht _ _
theorem tgtT_right {d : Nat} {l : List Int} (hl : l.length ≤ 1000) : Itm.rightT (d + 2) (tgtT l) = true :=
 rightT_arr (by rw [List.length_map]; exact hl) fun x hx => by
  obtain ⟨n, _, rfl⟩ := List.mem_map.1 hx
  exact rightT_num _ _
theorem resT_right {d : Nat} {r : List (List Pa)} (hl : r.length ≤ 1000) (h : r.all resB = true) : Itm.rightT (d + 4) (Itm.arrT (r.map pasT)) = true :=
 rightT_arr (by rw [List.length_map]; exact hl) fun x hx => by
  obtain ⟨l, hlr, rfl⟩ := List.mem_map.1 hx
  have := List.all_eq_true.1 h l hlr
  unfold resB at this
  simp only [Bool.and_eq_true, decide_eq_true_eq] at this
  exact pasT_right (by omega) this.2
theorem items_right {a : As} (h : shapedB a = true) {d : Nat} : ∀ x ∈ a.items, Itm.rightT (d + 4) x = true := by
 unfold shapedB at h
 simp only [Bool.and_eq_true, decide_eq_true_eq] at h
 obtain ⟨⟨⟨⟨⟨⟨⟨⟨h1, h2⟩, h3⟩, h4⟩, h5⟩, h6⟩, h7⟩, h8⟩, h9⟩ := h
 intro x hx
 unfold As.items at hx
 split at hx
 ·
  simp only [List.mem_cons, List.mem_nil_iff, or_false] at hx
  rcases hx with rfl | rfl | rfl | rfl | rfl
  · exact tgtT_right (by omega)
  · exact rightT_num _ _
  · exact rightT_num _ _
  · exact eiTree_right _ _
  · exact resT_right (by omega) h9
 ·
  simp only [List.mem_cons, List.mem_nil_iff, or_false] at hx
  rcases hx with rfl | rfl | rfl | rfl | rfl | rfl
  · exact tgtT_right (by omega)
  · exact rightT_num _ _
  · exact rightT_num _ _
  · exact eiTree_right _ _
  · exact pasT_right (by omega) h7
  · exact resT_right (by omega) h9
theorem nok_arr {l : List Itm.Tr} (h : ∀ x ∈ l, Itm.NOk x) {o : Bool} : Itm.NOk (.mk 4 0 [] l o) := .mk 4 0 [] l o (by decide) (by decide) fun i t ht => h t (List.mem_of_getElem? ht)
theorem nok_num {n : Nat} (h : n < 18446744073709551616) : Itm.NOk (Itm.numT n) := .mk 0 n [] [] false h (by decide) fun i t ht => by simp at ht
theorem nok_ei {e : Ei} (h : e.ok) : Itm.NOk e.tree := by
 have hl := h.l
 unfold R47 at hl
 unfold Ei.tree
 split
 ·
  refine nok_arr fun x hx => ?_
  simp only [List.mem_cons, List.mem_nil_iff, or_false] at hx
  rcases hx with rfl | rfl
  · exact nok_num (by decide)
  ·
   refine nok_arr fun x hx => ?_
   simp only [List.mem_cons, List.mem_nil_iff, or_false] at hx
   rcases hx with rfl | rfl
   · exact nok_num h.n
   · exact nok_num h.v
 ·
  split
  ·
   refine nok_arr fun x hx => ?_
   simp only [List.mem_cons, List.mem_nil_iff, or_false] at hx
   rcases hx with rfl | rfl <;> exact nok_num (by decide)
  ·
   refine nok_arr fun x hx => ?_
   simp only [List.mem_cons, List.mem_nil_iff, or_false] at hx
   rcases hx with rfl | rfl
   · exact nok_num (by decide)
   · exact .mk 3 0 e.l [] false (by decide) (by show e.l.length < 18446744073709551616; omega) fun i t ht => by simp at ht
theorem nok_pas {l : List Pa} (h : ∀ p ∈ l, 0 ≤ p.id ∧ p.id ≤ 65535) (hn : ∀ p ∈ l, Itm.NOk p.v) : Itm.NOk (pasT l) := nok_arr fun x hx => by
 obtain ⟨p, hp, rfl⟩ := List.mem_map.1 hx
 refine nok_arr fun y hy => ?_
 simp only [List.mem_cons, List.mem_nil_iff, or_false] at hy
 rcases hy with rfl | rfl
 ·
  have := h p hp
  exact nok_num (by omega)
 · exact hn p hp
theorem items_nok {a : As} (ho : a.ok) (h : shapedB a = true) : ∀ x ∈ a.items, Itm.NOk x := by
 unfold shapedB at h
 simp only [Bool.and_eq_true, decide_eq_true_eq] at h
 obtain ⟨⟨⟨⟨⟨⟨⟨⟨h1, h2⟩, h3⟩, h4⟩, h5⟩, h6⟩, h7⟩, h8⟩, h9⟩ := h
 have ht : Itm.NOk (tgtT a.t) := nok_arr fun x hx => by
  obtain ⟨n, hn, rfl⟩ := List.mem_map.1 hx
  have := unlikeB_coded h3 n hn
  exact nok_num (by omega)
 have hc : Itm.NOk (Itm.numT a.c.toNat) := by
  have := asCoded_true h4
  exact nok_num (by omega)
 have hr : Itm.NOk (Itm.arrT (a.r.map pasT)) := nok_arr fun x hx => by
  obtain ⟨l, hlr, rfl⟩ := List.mem_map.1 hx
  have := List.all_eq_true.1 h9 l hlr
  unfold resB at this
  rw [Bool.and_eq_true] at this
  exact nok_pas (pairsB_coded this.2) (ho.r l hlr)
 intro x hx
 unfold As.items at hx
 split at hx
 ·
  simp only [List.mem_cons, List.mem_nil_iff, or_false] at hx
  rcases hx with rfl | rfl | rfl | rfl | rfl
  · exact ht
  · exact hc
  · exact nok_num (by decide)
  · exact nok_ei ho.s
  · exact hr
 ·
  simp only [List.mem_cons, List.mem_nil_iff, or_false] at hx
  rcases hx with rfl | rfl | rfl | rfl | rfl | rfl
  · exact ht
  · exact hc
  · exact nok_num (by decide)
  · exact nok_ei ho.s
  · exact nok_pas (pairsB_coded h7) ho.p
  · exact hr
theorem parse_items {a : As} (ho : a.ok) (h : a.right = true) : itF 8 (159 :: (a.bytes ++ [255])) = some (.mk 4 0 [] a.items true, (159 :: (a.bytes ++ [255])).length) := by
 unfold As.right at h
 rw [Bool.and_eq_true, decide_eq_true_eq] at h
 have hb : Itm.bytesB (.mk 4 0 [] a.items true) = 159 :: (a.bytes ++ [255]) := Itm.bytes_opn a.items
 have hil : a.items.length ≤ 1000 := by unfold As.items; split <;> simp
 have hr : Itm.rightT 8 (.mk 4 0 [] a.items true) = true := by
  rw [Itm.rightT, Bool.and_eq_true, List.all_eq_true]
  refine ⟨?_, fun x hx => items_right h.1 (d := 3) x hx⟩
  show Itm.okN 4 0 [] a.items.length true = true
  unfold Itm.okN
  simp [hil]
 have := itF_bytes 8 (.mk 4 0 [] a.items true) [] hr (nok_arr (items_nok ho h.1)) (by rw [hb, List.length_cons, List.length_append]; simp only [List.length_cons, List.length_nil]; omega)
 rw [List.append_nil, hb] at this
 exact this
theorem read_items {a : As} (h : a.right = true) : asR a.items = some a := by
 unfold As.right at h
 rw [Bool.and_eq_true] at h
 exact asR_items h.1 (eiTree_right 5 a.s)
theorem bytes_inj {a b : As} (ha : a.right = true) (hb : b.right = true) (oa : a.ok) (ob : b.ok) (h : a.bytes = b.bytes) : a = b := by
 have h1 := parse_items oa ha
 have h2 := parse_items ob hb
 rw [h, h2] at h1
 simp only [Option.some.injEq, Prod.mk.injEq, Itm.Tr.mk.injEq, true_and, and_true] at h1
 have e1 := read_items ha
 have e2 := read_items hb
 rw [← h1, e2] at e1
 exact (Option.some.inj e1).symm
def PaR (V : View) (p : Pa) (cs : List Value) : Prop := ∃ ct, cs = .int .i64 p.id :: ct ∧ TV V p.v ct
instance paR : RecOk PaR 6 := ⟨fun h ⟨ct, e, ht⟩ => ⟨ct, e, ht.le h⟩, fun ⟨ct, e, ht⟩ => by rw [e, List.length_cons, ht.len5], fun ⟨ct, e, ht⟩ u hu => by
 rw [e] at hu
 rcases List.mem_cons.1 hu with rfl | hu
 · rfl
 · exact ht.one u hu⟩
def RlR (V : View) (l : List Pa) (cs : List Value) : Prop := ∃ a c, cs = [.slice a l.length c] ∧ LsAt PaR 6 V a l
instance rlR : RecOk RlR 1 := ⟨fun h ⟨a, c, e, hl⟩ => ⟨a, c, e, hl.le h⟩, fun ⟨a, c, e, hl⟩ => by rw [e]; rfl, fun ⟨a, c, e, hl⟩ u hu => by
 rw [e] at hu
 obtain rfl := List.mem_singleton.1 hu
 rfl⟩
theorem inV_ins {V : View} {b f : Nat} {l : List Int} (h : V.range b f (l.map inV)) (hl : l.length ≤ R47) : InsAt V (some ⟨b, f, none⟩) l := ⟨fun _ => ⟨b, f, rfl, h⟩, hl⟩
theorem InsAt.take {V : View} {b f : Nat} {l : List Int} (h : InsAt V (some ⟨b, f, none⟩) l) (i : Nat) : InsAt V (some ⟨b, f, none⟩) (l.take i) := by
 refine ⟨fun hne => ?_, by have := h.len; rw [List.length_take]; omega⟩
 obtain ⟨b', f', e, hr⟩ := h.at_ (fun e => hne (by rw [e]; simp))
 refine ⟨b', f', e, fun j v hj => hr j v ?_⟩
 rw [List.map_take] at hj
 rw [List.getElem?_take] at hj
 split at hj
 · exact hj
 · cases hj
structure AsAt (U : View) (a1 a2 a3 : Option Addr) (a : As) : Prop where
 t : InsAt U a1 a.t
 p : LsAt PaR 6 U a2 a.p
 r : LsAt RlR 1 U a3 a.r
 s : a.s.ok
theorem AsAt.le {U V : View} (h : View.le U V) {a1 a2 a3 : Option Addr} {a : As} (ha : AsAt U a1 a2 a3 a) : AsAt V a1 a2 a3 a := ⟨ha.t.le h, ha.p.le h, ha.r.le h, ha.s⟩
def asCs (a : As) (a1 a2 a3 : Option Addr) (c1 c2 c3 : Nat) : List Value := [.slice a1 a.t.length c1, .int .i64 a.c, .int .i64 a.s.s, .string (B a.s.l), .int .u64 a.s.n, .int .u64 a.s.v, .slice a2 a.p.length c2, .slice a3 a.r.length c3]
def asV (a : As) (a1 a2 a3 : Option Addr) (c1 c2 c3 : Nat) : Value := .agg (asCs a a1 a2 a3 c1 c2 c3).toArray
theorem TV.nok {U : View} {t : Itm.Tr} {cs : List Value} (h : TV U t cs) : Itm.NOk t := by
  induction h with
  | mk k n s l o a c C hn hs hl hat hel ih => exact .mk k n s l o hn (by have : R47 < 18446744073709551616 := by decide
                                                                         show s.length < 18446744073709551616
                                                                         omega) ih
theorem LsAt.all {α : Type} {R : View → α → List Value → Prop} {z : Nat} {U : View} {a : Option Addr} {l : List α} (h : LsAt R z U a l) {x : α} (hx : x ∈ l) : ∃ cs, R U x cs := by
 obtain ⟨i, hi⟩ := List.mem_iff_getElem?.1 hx
 obtain ⟨_, _, cs, _, _, hr⟩ := h.at_ i x hi
 exact ⟨cs, hr⟩
theorem AsAt.ok {U : View} {a1 a2 a3 : Option Addr} {a : As} (h : AsAt U a1 a2 a3 a) : a.ok :=
 ⟨h.s, fun x hx => by
  obtain ⟨cs, ct, _, ht⟩ := h.p.all hx
  exact ht.nok, fun l hl x hx => by
  obtain ⟨cs, a, c, _, hp⟩ := h.r.all hl
  obtain ⟨cs, ct, _, ht⟩ := hp.all hx
  exact ht.nok⟩
theorem Mem.freezeRwC {W0 : Cx} {U : View} {W : World} {r : Rw} {xs : List Value} {z m : Nat} {σ1 : Blks} {e : TypeId} (hM : Mem W0 U (σ1 ++ r.B e xs) W) (hok : r.ok z m xs) : ∃ a c V, View.le U V ∧ RowAt V a xs ∧ r.V m = .slice a m c ∧ m ≤ c ∧ Mem W0 V σ1 W := by
 obtain ⟨a, c, V, hl, hA, hv, hM'⟩ := hM.freezeRw hok
 obtain ⟨a', c', hv', hc'⟩ := Rw.formC hok
 refine ⟨a, c, V, hl, hA, hv, ?_, hM'⟩
 rw [hv] at hv'
 simp only [Value.slice.injEq, true_and] at hv'
 rw [hv'.2]
 exact hc'
theorem retN_rwR {α : Type} {R : View → α → List Value → Prop} {z : Nat} [RecOk R z] (hz : 0 < z) {w : World} {U V : View} {W' : World} {σ1 : Blks} {e : TypeId} {r : Rw} {xs : List Value} {m : Nat} {L : List (α × List Value)} {Φ : Value → View → Prop} (hM : Mem ⟨w, U⟩ V (σ1 ++ r.B e xs) W') (hr : RwR R z V r xs m L) (hle : View.le U V) (f : Value → Value) (h47 : m ≤ R47)
  (h : ∀ a c V', View.le V V' → LsAt R z V' a (L.map Prod.fst) → m ≤ c → m = (L.map Prod.fst).length → Φ (f (.slice a m c)) V') : RetN w U Φ (.returned (f (r.V m))) W' := by
 obtain ⟨a, c, V', hl', hA, hv, hc, hM'⟩ := hM.freezeRwC hr.ok
 rw [hv]
 exact retN_of hM' (View.le_trans hle hl') (h a c V' hl' (hr.done hz hA hl' h47) hc (by rw [List.length_map]; exact hr.m))
theorem mapO_succ {α β : Type} {f : α → Option β} : ∀ {l : List α} {i : Nat} {y : α} {ys : List β} {z : β}, mapO f (l.take i) = some ys → l[i]? = some y → f y = some z → mapO f (l.take (i + 1)) = some (ys ++ [z])
 | [], i, y, ys, z, _, h, _ => by simp at h
 | x :: l, 0, y, ys, z, h0, h, hf => by
  simp only [List.getElem?_cons_zero, Option.some.injEq] at h
  subst h
  simp only [List.take_zero, mapO, Option.some.injEq] at h0
  subst h0
  simp [mapO, hf]
 | x :: l, i + 1, y, ys, z, h0, h, hf => by
  simp only [List.getElem?_cons_succ] at h
  rw [List.take_succ_cons, mapO] at h0 ⊢
  cases hx : f x with
  | none => rw [hx] at h0; cases h0
  | some u =>
   rw [hx] at h0
   simp only at h0 ⊢
   cases hr : mapO f (l.take i) with
   | none => rw [hr] at h0; cases h0
   | some r =>
    rw [hr] at h0
    simp only [Option.some.injEq] at h0
    subst h0
    rw [mapO_succ hr h hf]
    rfl
theorem mapO_none {α β : Type} {f : α → Option β} : ∀ {l : List α} {y : α}, y ∈ l → f y = none → mapO f l = none
 | x :: l, y, h, hf => by
  rw [mapO]
  rcases List.mem_cons.1 h with rfl | h
  · rw [hf]
  ·
   cases f x with
   | none => rfl
   | some u =>
    simp only
    rw [mapO_none h hf]
theorem pairR_two {y u v : Itm.Tr} (h2 : y.l.length = 2) (h0 : y.l[0]? = some u) (h1 : y.l[1]? = some v) : pairR y = match numR u with
  | none => none
  | some n => some ⟨n, v⟩ := by
 have hl : y.l = [u, v] := by
  match hq : y.l with
  | [] => rw [hq] at h2; cases h2
  | [_] => rw [hq] at h2; cases h2
  | [p, q] =>
   rw [hq] at h0 h1
   simp only [List.getElem?_cons_zero, List.getElem?_cons_succ, Option.some.injEq] at h0 h1
   rw [h0, h1]
  | _ :: _ :: _ :: _ => rw [hq] at h2; simp at h2
 unfold pairR
 rw [hl]
 try rfl
theorem pairR_not {y : Itm.Tr} (h2 : ¬ y.l.length = 2) : pairR y = none := by
 unfold pairR
 split
 · next u v h => rw [h] at h2; exact absurd rfl h2
 · rfl
theorem numR_some {u : Itm.Tr} (h : (u.k == 0) = true) : numR u = some ((min u.n 65536 : Nat) : Int) := by unfold numR; rw [if_pos h]
theorem numR_none {u : Itm.Tr} (h : (u.k == 0) = false) : numR u = none := by unfold numR; rw [if_neg (by rw [h]; exact Bool.false_ne_true)]
def LRes {α : Type} (R : View → α → List Value → Prop) (z : Nat) (eA : Addr) (x : Option (List α)) (v : Value) (V : View) : Prop := match x with
 | some l => ∃ a c, v = .tuple #[.slice a l.length c, .nilIface] ∧ LsAt R z V a l ∧ l.length ≤ c
 | none => ∃ e : Er, v = .tuple #[.slice none 0 0, e.V eA]
theorem LRes.some {α : Type} {R : View → α → List Value → Prop} {z : Nat} {eA : Addr} {x : Option (List α)} {v : Value} {V : View} (h : LRes R z eA x v V) (hx : x.isSome = true) : ∃ l a c, x = some l ∧ v = .tuple #[.slice a l.length c, .nilIface] ∧ LsAt R z V a l ∧ l.length ≤ c := by
 obtain ⟨l, rfl⟩ := Option.isSome_iff_exists.1 hx
 obtain ⟨a, c, h⟩ := h
 exact ⟨l, a, c, rfl, h⟩
theorem LRes.none {α : Type} {R : View → α → List Value → Prop} {z : Nat} {eA : Addr} {x : Option (List α)} {v : Value} {V : View} (h : LRes R z eA x v V) (hx : x.isSome = false) : x = none ∧ ∃ e : Er, v = .tuple #[.slice none 0 0, e.V eA] := by
 cases x with
 | none => exact ⟨rfl, h⟩
 | some l => cases hx
theorem aCoded_any (x : Int) (w : World) : Calls Tryz.prog 172 #[.int .i64 x] w (Ret (.bool (asCoded x)) w) := by
 refine sx_enter (f := 172) 9 View.no Tryz.func172 rfl rfl rfl (fun _ _ h => by cases h) ?_
 refine zQ 1 (zn (zQ 3 (sx_BL 5 (decide (x ≥ 0)) (fun h0 => ?_) (fun h0 => ?_))))
 ·
  refine zq 4 (zn (sx_ret (sx_Z [2] [(.bool (decide (x ≤ 65535)))] (fun W' hM => ?_))))
  exact ⟨by simp only [resV,asCoded,h0,bs,if_true,if_false,cond_true,cond_false,reduceIte],hM.below⟩
 ·
  refine zq 4 (zn (sx_ret (sx_Z [2] [(.bool false)] (fun W' hM => ?_))))
  exact ⟨by simp only [resV,asCoded,h0,bs,if_true,if_false,cond_true,cond_false,reduceIte],hM.below⟩
def idxI (v : Int) : Nat → List Int → Int
 | _, [] => -1
 | i, x :: r => if v == x then (i : Int) else idxI v (i + 1) r
theorem idxI_drop {l : List Int} {v : Int} {i : Nat} {y : Int} (h : l[i]? = some y) : idxI v i (l.drop i) = if v == y then (i : Int) else idxI v (i + 1) (l.drop (i + 1)) := by
 rw [drop_some h, idxI]
theorem idxI_has (v : Int) : ∀ (i : Nat) (l : List Int), decide (idxI v i l ≥ 0) = l.contains v
 | _, [] => rfl
 | i, x :: r => by
  rw [idxI, List.contains_cons]
  cases v == x with
  | true => simp
  | false => simpa using idxI_has v (i + 1) r
theorem index_any (l : List Int) (a : Option Addr) (c : Nat) (v : Int) (w : World) {U : View} (hU : ∀ a v, U a = some v → w.cell? a = some v) (hl : InsAt U a l) : Calls Tryz.prog 103 #[.slice a l.length c, .int .i64 v] w (Ret (.int .i64 (idxI v 0 l)) w) := by
 have hlen := hl.len
 unfold R47 at hlen
 refine sx_enter (f := 103) 19 U Tryz.func103 rfl rfl rfl hU ?_
 refine zQ 1 (zn (zs (zQ 3 (zn (sx_block ?_)))))
 refine sx_loop (α := Nat) (fun x => [0,1,4,7,8].zip [(.slice a l.length c),(I6 v),(I6 0),(L6 l.length),(L6 x)]) (fun x => U) (fun x => []) (fun x => x ≤ l.length ∧ idxI v x (l.drop x) = idxI v 0 l) (fun x => l.length - x) 0 ?_ (look_zip _ _ (by kernel_rfl)) (fun _ h => h.eqv (by kernel_rfl)) ?_
 · exact ⟨Nat.zero_le _,rfl⟩
 intro x hx
 obtain ⟨hx1,hx2⟩ := hx
 refine zQ 1 (zn (zs (sx_D (decide (((x : Nat) : Int) < (((l.length : Nat)) : Int))) (fun h0 => ?_) (fun h0 => ?_))))
 ·
  have h0d := of_decide_eq_true h0
  refine zk (zs (sx_block (zQ 2 (zn (zQ 3 ?_)))))
  obtain ⟨y0,hy0⟩ : ∃ y,(l)[x]? = some y := ⟨(l)[x]'(by omega),List.getElem?_eq_getElem _⟩
  obtain ⟨b0,f0,rfl,hU0⟩ := hl.one hy0
  refine sx_R (Pt b0 (f0 + x)) (run_ix1 _ 3 _ _ rfl b0 f0 l.length c x .i64 (by kernel_rfl) (by kernel_rfl) (by first | assumption | omega) (by kernel_rfl) (by kernel_rfl)) ?_
  refine zV b0 (f0 + x) (I6 y0) hU0 3 (.tmp 14) _ Tryz.underlying3 rfl ?_
  refine zq 1 (zn (sx_D (v == y0) (fun h1 => ?_) (fun h1 => ?_)))
  ·
   refine zQ 2 (zn (sx_ret (sx_Z [4] [(L6 x)] (fun W' hM => ?_))))
   refine ⟨?_,hM.below⟩
   rw [← hx2,idxI_drop hy0,if_pos h1]
   rfl
  ·
   have h1d := beq_eq_false_iff_ne.1 h1
   refine zk (zr (zq 1 (sx_E 18 (I6 (IntKind.i64.wrap (((x : Nat) : Int) + 1))) (I6 (((x : Nat) : Int) + 1)) i6v ?_)))
   refine zq 1 (zn ?_)
   refine ⟨(x + 1),?_,?_,look_zip _ _ (by kernel_rfl),fun _ h => h.eqv (by kernel_rfl)⟩
   · exact ⟨by omega,by rw [← hx2,idxI_drop hy0,h1]; rfl⟩
   · show l.length - (x + 1) < l.length - x; omega
 ·
  have h0d := of_decide_eq_false h0
  refine sx_exit (zQ 1 (zn (sx_ret (sx_Z [4] [(I6 (-1))] (fun W' hM => ?_)))))
  refine ⟨?_,hM.below⟩
  rw [← hx2,drop_all (by omega)]
  rfl
theorem contains_any (l : List Int) (a : Option Addr) (c : Nat) (v : Int) (w : World) {U : View} (hU : ∀ a v, U a = some v → w.cell? a = some v) (hl : InsAt U a l) : Calls Tryz.prog 121 #[.slice a l.length c, .int .i64 v] w (Ret (.bool (l.contains v)) w) := by
 refine sx_enter (f := 121) 9 U Tryz.func121 rfl rfl rfl hU ?_
 refine zQ 1 (zn (zQ 2 (sx_C 103 #[(.slice a l.length c),(I6 v)] (I6 (idxI v 0 l)) (fun W hM => index_any l _ _ v W hM.view hl) ?_)))
 refine zq 2 (zn (sx_ret (sx_Z [4] [(.bool (decide ((idxI v 0 l) ≥ 0)))] (fun W' hM => ?_))))
 exact ⟨by rw [← idxI_has v 0 l]; rfl,hM.below⟩
theorem unlikeG_drop {l : List Int} {i : Nat} {y : Int} (h : l[i]? = some y) : unlikeG (l.take i) (l.drop i) = if !asCoded y || (l.take i).contains y then false else unlikeG (l.take (i + 1)) (l.drop (i + 1)) := by
 rw [drop_some h, unlikeG, List.take_add_one, h]
 rfl
theorem unlike_any (l : List Int) (a : Option Addr) (c : Nat) (w : World) {U : View} (hU : ∀ a v, U a = some v → w.cell? a = some v) (hl : InsAt U a l) (hc : l.length ≤ c) : Calls Tryz.prog 171 #[.slice a l.length c] w (Ret (.bool (unlikeB l)) w) := by
 have hlen := hl.len
 unfold R47 at hlen
 refine sx_enter (f := 171) 23 U Tryz.func171 rfl rfl rfl hU ?_
 refine zQ 1 (zn (zs (zQ 3 (zn (sx_block ?_)))))
 refine sx_loop (α := Nat) (fun x => [0,2,5,6,7].zip [(.slice a l.length c),(.bool false),(.slice a l.length c),(L6 l.length),(L6 x)]) (fun x => U) (fun x => []) (fun x => x ≤ l.length ∧ unlikeG (l.take x) (l.drop x) = unlikeB l) (fun x => l.length - x) 0 ?_ (look_zip _ _ (by kernel_rfl)) (fun _ h => h.eqv (by kernel_rfl)) ?_
 · exact ⟨Nat.zero_le _,rfl⟩
 intro x hx
 obtain ⟨hx1,hx2⟩ := hx
 refine zQ 1 (zn (zs (sx_D (decide (((x : Nat) : Int) < (((l.length : Nat)) : Int))) (fun h0 => ?_) (fun h0 => ?_))))
 ·
  have h0d := of_decide_eq_true h0
  refine zk (zs (sx_block (zQ 1 ?_)))
  obtain ⟨y0,hy0⟩ : ∃ y,(l)[x]? = some y := ⟨(l)[x]'(by omega),List.getElem?_eq_getElem _⟩
  obtain ⟨b0,f0,rfl,hU0⟩ := hl.one hy0
  refine sx_R (Pt b0 (f0 + x)) (run_ix1 _ 3 _ _ rfl b0 f0 l.length c x .i64 (by kernel_rfl) (by kernel_rfl) (by first | assumption | omega) (by kernel_rfl) (by kernel_rfl)) ?_
  refine zV b0 (f0 + x) (I6 y0) hU0 3 (.tmp 10) _ Tryz.underlying3 rfl ?_
  refine zq 2 (zn (zQ 1 (sx_C 172 #[(I6 y0)] (.bool (asCoded y0)) (fun W hM => aCoded_any y0 W) ?_)))
  refine zq 2 (sx_BL 15 (!(asCoded y0)) (fun h1 => ?_) (fun h1 => ?_))
  ·
   refine zq 6 (zn (sx_T (zQ 1 (zn (sx_ret (sx_Z [2] [(.bool false)] (fun W' hM => ?_)))))))
   refine ⟨?_,hM.below⟩
   rw [← hx2,unlikeG_drop hy0]
   simp only [h1,bs,if_true,if_false,cond_true,cond_false,reduceIte]
   rfl
  ·
   refine zq 2 (sx_R (Sl b0 f0 x c) (run_sl 48 3 (.tmp 16) none (some (.tmp 17)) none rfl b0 f0 l.length c 0 x c 1 x c f0 (by kernel_rfl) (show _ = _ by kernel_rfl) (show _ = _ by kernel_rfl) (show _ = _ by kernel_rfl) (by decide) (by omega) (by omega) (by omega) (by omega) (by omega) (by first | rfl | (split <;> omega)) Tryz.underlying48 (by kernel_rfl)) ?_)
   refine zq 1 (sx_C 121 #[(Sl b0 f0 x c),(I6 y0)] (.bool ((l.take x).contains y0)) (fun W hM => (by have h := contains_any (l.take x) _ c y0 W hM.view (hl.take x); rwa [List.length_take,Nat.min_eq_left (by omega)] at h)) ?_)
   refine zq 1 (zn (sx_D ((l.take x).contains y0) (fun h2 => ?_) (fun h2 => ?_)))
   ·
    refine zQ 1 (zn (sx_ret (sx_Z [2] [(.bool false)] (fun W' hM => ?_))))
    refine ⟨?_,hM.below⟩
    rw [← hx2,unlikeG_drop hy0]
    simp only [h1,h2,bs,if_true,if_false,cond_true,cond_false,reduceIte]
    rfl
   ·
    refine zk (zr (zq 1 (sx_E 22 (I6 (IntKind.i64.wrap (((x : Nat) : Int) + 1))) (I6 (((x : Nat) : Int) + 1)) i6v ?_)))
    refine zq 1 (zn ?_)
    refine ⟨(x + 1),?_,?_,look_zip _ _ (by kernel_rfl),fun _ h => h.eqv (by kernel_rfl)⟩
    · exact ⟨by omega,by rw [← hx2,unlikeG_drop hy0]; simp only [h1,h2,bs,if_true,if_false,cond_true,cond_false,reduceIte]⟩
    · show l.length - (x + 1) < l.length - x; omega
 ·
  have h0d := of_decide_eq_false h0
  refine sx_exit (zQ 1 (zn (sx_ret (sx_Z [2] [(.bool true)] (fun W' hM => ?_)))))
  refine ⟨?_,hM.below⟩
  rw [← hx2,drop_all (by omega)]
  rfl
theorem pairs_no {l : List Pa} {y : Pa} (hy : y ∈ l) (h : paB y = false) : pairsB l = false := by
 unfold pairsB
 rw [show l.all paB = false from List.all_eq_false.2 ⟨y, hy, by rw [h]; decide⟩]
 rfl
set_option maxHeartbeats 16000000 in
theorem pairs_any (l : List Pa) (a : Option Addr) (c : Nat) (w : World) {U : View} (hU : ∀ a v, U a = some v → w.cell? a = some v) (hl : LsAt PaR 6 U a l) (h47 : l.length ≤ 1000000) : Calls Tryz.prog 173 #[.slice a l.length c] w (Ret (.bool (pairsB l)) w) := by
 refine sx_enter (f := 173) 36 U Tryz.func173 rfl rfl rfl hU ?_
 refine zQ 1 (zn (zQ 1 (zn (zs (zQ 3 (zn (sx_block ?_)))))))
 refine sx_loop (α := Gp Int) (fun x => [2,3,6,7,8].zip [(.bool false),(x.r.V x.i),(.slice a l.length c),(L6 l.length),(L6 x.i)]) (fun x => x.V) (fun x => ([] ++ x.r.B 3 x.xs)) (fun x => x.i ≤ l.length ∧ View.le U x.V ∧ RwR InR 1 x.V x.r x.xs x.i x.L ∧ x.L.map Prod.fst = (l.take x.i).map Pa.id ∧ (l.take x.i).all paB = true) (fun x => l.length - x.i) ⟨0,Rw.nil,[],[],U⟩ ?_ (look_zip _ _ (by kernel_rfl)) (fun _ h => h.nilE) ?_
 · exact ⟨Nat.zero_le _,View.le_refl _,RwR.nil,rfl,rfl⟩
 intro x hx
 obtain ⟨hxi,hxl,hxr,hxp⟩ := hx
 refine zQ 1 (zn (zs (sx_D (decide (((x.i : Nat) : Int) < (((l.length : Nat)) : Int))) (fun h0 => ?_) (fun h0 => ?_))))
 ·
  have h0d := of_decide_eq_true h0
  refine zk (zs (sx_block (zs (zr ?_))))
  obtain ⟨y0,hy0⟩ : ∃ y,(l)[x.i]? = some y := ⟨(l)[x.i]'(by omega),List.getElem?_eq_getElem _⟩
  obtain ⟨b0,f0,cs0,rfl,hU0,hR0⟩ := (hl.le hxl).at_ x.i y0 hy0
  obtain ⟨ct0,rfl,ht0⟩ := hR0
  obtain ⟨a0,c0,rfl,hts0,hn0,hs0,hl0⟩ := ht0.form
  refine sx_R (Pt b0 (f0 + x.i * 6)) (rIx 92 rfl b0 f0 l.length c x.i 6) ?_
  refine zU b0 (f0 + x.i * 6) [(I6 y0.id),(I6 y0.v.k),(N6 y0.v.n),(St y0.v.s),(.slice a0 y0.v.l.length c0),(.bool y0.v.o)] hU0 92 (.tmp 10) _ Tryz.underlying92 rfl ?_
  refine sx_NI 0 (fun b1 => ?_)
  refine sx_S 0 b1 (zn (zs (zB [0,0,1,0,0] [(b1,1)] (sx_BL 16 (y0.v.k != 0) (fun h1 => ?_) (fun h1 => ?_)))))
  ·
   have h1d := bne_iff_ne.1 h1
   refine sx_B [0,0,1,0,0,0] [(b1,1)] (sx_BL 22 (y0.v.k != 2) (fun h2 => ?_) (fun h2 => ?_))
   ·
    have h2d := bne_iff_ne.1 h2
    refine zq 5 (zn (sx_T (zQ 1 (zn (sx_ret (sx_Z [2] [(.bool false)] (fun W' hM => ?_)))))))
    refine ⟨?_,hM.below⟩
    have hpa : paB y0 = false := by simp [paB,h1d,h2d]
    rw [pairs_no (List.mem_of_getElem? hy0) hpa]
    rfl
   ·
    have h2d := bne_eq_false_iff_eq.1 h2
    refine sx_B [0,1] [(b1,5)] (sx_C 179 #[(.agg #[(I6 y0.v.k),(N6 y0.v.n),(St y0.v.s),(.slice a0 y0.v.l.length c0),(.bool y0.v.o)])] (.bool (Itm.rightT 8 y0.v)) (fun W hM => Itm.iRight_any y0.v _ W (ht0.toTAt hM.view)) ?_)
    refine zq 2 (zn (sx_D (!(Itm.rightT 8 y0.v)) (fun h3 => ?_) (fun h3 => ?_)))
    ·
     refine zQ 1 (zn (sx_ret (sx_Z [2] [(.bool false)] (fun W' hM => ?_))))
     refine ⟨?_,hM.below⟩
     have hpa : paB y0 = false := by simp only [Bool.not_eq_true',Bool.not_eq_false'] at h3; simp [paB,h1d,h2d,h3]
     rw [pairs_no (List.mem_of_getElem? hy0) hpa]
     rfl
    ·
     refine zk (zr (sx_B [0,0,1] [(b1,1)] (sx_NI 1 (fun b2 => ?_))))
     refine sx_appE x.r x.xs x.i [(bK b1 [(I6 y0.id),(I6 y0.v.k),(N6 y0.v.n),(St y0.v.s),(.slice a0 y0.v.l.length c0),(.bool y0.v.o)] 92),(bK b2 [(I6 y0.id)] 3)] 3 48 1 8 1 (by kernel_rfl) hxr.ok (.tmp 28) (.tmp 31) rfl (by kernel_rfl) b2 0 1 [(I6 y0.id)] (by kernel_rfl) (fun W hM => rangeAt_own hM 1 b2 [(I6 y0.id)] 3 (by kernel_rfl)) rfl (List.all_eq_true.1 (by kernel_rfl)) (by decide) (by unfold maxLen; omega) (by omega) (by kernel_rfl) (by kernel_rfl) (by kernel_rfl) (by kernel_rfl) (by kernel_rfl) (fun r3 hr3 => ?_)
     refine zq 1 (zn (zr (zq 1 (sx_E 33 (I6 (IntKind.i64.wrap (((x.i : Nat) : Int) + 1))) (I6 (((x.i : Nat) : Int) + 1)) i6v ?_))))
     refine zq 1 (zn ?_)
     refine ⟨⟨x.i + 1,r3,(x.xs ++ [(I6 y0.id)]),x.L ++ [(y0.id,[(I6 y0.id)])],x.V⟩,?_,?_,look_zip _ _ (by kernel_rfl),fun _ h => Mem.sub (List.Sublist.append (List.sublist_append_left _ _) (List.Sublist.refl _)) (h.eqv (show _ = (([] : Blks) ++ ([(bK b1 [(I6 y0.id),(I6 y0.v.k),(N6 y0.v.n),(St y0.v.s),(.slice a0 y0.v.l.length c0),(.bool y0.v.o)] 92),(bK b2 [(I6 y0.id)] 3)] : Blks)) ++ (r3.B 3 (x.xs ++ [(I6 y0.id)])) from by kernel_rfl))⟩
     · exact ⟨by show x.i + 1 ≤ _; omega,hxl,RwR.snoc hxr rfl hr3,by rw [List.map_append,hxp.1,take_map_succ Pa.id hy0]; rfl,by rw [take_all_succ paB hy0,hxp.2]; simp only [Bool.not_eq_true',Bool.not_eq_false'] at h3; simp [paB,h1d,h2d,h3]⟩
     · show l.length - (x.i + 1) < l.length - x.i; omega
  ·
   have h1d := bne_eq_false_iff_eq.1 h1
   refine sx_B [0,0,0,0,0,0,0,1] [(b1,5)] (sx_C 179 #[(.agg #[(I6 y0.v.k),(N6 y0.v.n),(St y0.v.s),(.slice a0 y0.v.l.length c0),(.bool y0.v.o)])] (.bool (Itm.rightT 8 y0.v)) (fun W hM => Itm.iRight_any y0.v _ W (ht0.toTAt hM.view)) ?_)
   refine zq 2 (zn (sx_D (!(Itm.rightT 8 y0.v)) (fun h4 => ?_) (fun h4 => ?_)))
   ·
    refine zQ 1 (zn (sx_ret (sx_Z [2] [(.bool false)] (fun W' hM => ?_))))
    refine ⟨?_,hM.below⟩
    have hpa : paB y0 = false := by simp only [Bool.not_eq_true',Bool.not_eq_false'] at h4; simp [paB,h1d,h4]
    rw [pairs_no (List.mem_of_getElem? hy0) hpa]
    rfl
   ·
    refine zk (zr (sx_B [0,0,1] [(b1,1)] (sx_NI 1 (fun b4 => ?_))))
    refine sx_appE x.r x.xs x.i [(bK b1 [(I6 y0.id),(I6 y0.v.k),(N6 y0.v.n),(St y0.v.s),(.slice a0 y0.v.l.length c0),(.bool y0.v.o)] 92),(bK b4 [(I6 y0.id)] 3)] 3 48 1 8 1 (by kernel_rfl) hxr.ok (.tmp 28) (.tmp 31) rfl (by kernel_rfl) b4 0 1 [(I6 y0.id)] (by kernel_rfl) (fun W hM => rangeAt_own hM 1 b4 [(I6 y0.id)] 3 (by kernel_rfl)) rfl (List.all_eq_true.1 (by kernel_rfl)) (by decide) (by unfold maxLen; omega) (by omega) (by kernel_rfl) (by kernel_rfl) (by kernel_rfl) (by kernel_rfl) (by kernel_rfl) (fun r5 hr5 => ?_)
    refine zq 1 (zn (zr (zq 1 (sx_E 33 (I6 (IntKind.i64.wrap (((x.i : Nat) : Int) + 1))) (I6 (((x.i : Nat) : Int) + 1)) i6v ?_))))
    refine zq 1 (zn ?_)
    refine ⟨⟨x.i + 1,r5,(x.xs ++ [(I6 y0.id)]),x.L ++ [(y0.id,[(I6 y0.id)])],x.V⟩,?_,?_,look_zip _ _ (by kernel_rfl),fun _ h => Mem.sub (List.Sublist.append (List.sublist_append_left _ _) (List.Sublist.refl _)) (h.eqv (show _ = (([] : Blks) ++ ([(bK b1 [(I6 y0.id),(I6 y0.v.k),(N6 y0.v.n),(St y0.v.s),(.slice a0 y0.v.l.length c0),(.bool y0.v.o)] 92),(bK b4 [(I6 y0.id)] 3)] : Blks)) ++ (r5.B 3 (x.xs ++ [(I6 y0.id)])) from by kernel_rfl))⟩
    · exact ⟨by show x.i + 1 ≤ _; omega,hxl,RwR.snoc hxr rfl hr5,by rw [List.map_append,hxp.1,take_map_succ Pa.id hy0]; rfl,by rw [take_all_succ paB hy0,hxp.2]; simp only [Bool.not_eq_true',Bool.not_eq_false'] at h4; simp [paB,h1d,h4]⟩
    · show l.length - (x.i + 1) < l.length - x.i; omega
 ·
  have h0d := of_decide_eq_false h0
  refine sx_exit (zQ 1 ?_)
  refine sx_fzC 34 x.r x.xs 1 x.i [] 3 (by kernel_rfl) hxr.ok (by kernel_rfl) (fun a6 c6 V6 hV6 hR6 hE6 => ?_)
  have k7 := hxr.le hV6
  have hL6 := (k7.done (by decide) hR6 (View.le_refl _) (by unfold R47; omega)).ins
  rw [hxp.1,List.take_of_length_le (by omega)] at hL6
  refine sx_C 171 #[(.slice a6 x.i c6)] (.bool (unlikeB (l.map Pa.id))) (fun W hM => (by have h := unlike_any (l.map Pa.id) a6 c6 W hM.view hL6 (by rw [List.length_map]; omega); rwa [List.length_map,show l.length = x.i by omega] at h)) ?_
  refine zq 1 (zn (sx_ret (sx_Z [2] [(.bool (unlikeB (l.map Pa.id)))] (fun W' hM => ?_))))
  refine ⟨?_,hM.below⟩
  have hp2 := hxp.2
  rw [List.take_of_length_le (by omega)] at hp2
  unfold pairsB
  rw [hp2]
  rfl
theorem shaped1_any (l : List Pa) (a : Option Addr) (c : Nat) (w : World) {U : View} (hU : ∀ a v, U a = some v → w.cell? a = some v) (hl : LsAt PaR 6 U a l) : Calls Tryz.prog 175 #[.slice a l.length c] w (Ret (.bool (!resB l)) w) := by
 have e1 : decide (1 ≤ l.length) = !decide (((l.length : Nat) : Int) < 1) := by rw [← decide_not]; exact decide_eq_decide.2 (by omega)
 have e2 : decide (l.length ≤ 4) = !decide (((l.length : Nat) : Int) > 4) := by rw [← decide_not]; exact decide_eq_decide.2 (by omega)
 refine sx_enter (f := 175) 16 U Tryz.func175 rfl rfl rfl hU ?_
 refine zQ 1 (zn (zQ 4 (sx_BL 6 (decide ((((l.length : Nat)) : Int) < 1)) (fun h0 => ?_) (fun h0 => ?_))))
 ·
  refine zq 10 (zn (sx_ret (sx_Z [2] [(.bool true)] (fun W' hM => ?_))))
  refine ⟨?_,hM.below⟩
  unfold resB
  rw [e1,e2]
  simp only [resV,h0,bs,if_true,if_false,cond_true,cond_false,reduceIte]
 ·
  have h0d := of_decide_eq_false h0
  refine zq 5 (sx_BL 11 (decide ((((l.length : Nat)) : Int) > 4)) (fun h1 => ?_) (fun h1 => ?_))
  ·
   refine zq 5 (zn (sx_ret (sx_Z [2] [(.bool true)] (fun W' hM => ?_))))
   refine ⟨?_,hM.below⟩
   unfold resB
   rw [e1,e2]
   simp only [resV,h0,h1,bs,if_true,if_false,cond_true,cond_false,reduceIte]
  ·
   have h1d := of_decide_eq_false h1
   refine zq 1 (sx_C 173 #[(.slice a l.length c)] (.bool (pairsB l)) (fun W hM => pairs_any l _ _ W hM.view hl (by omega)) ?_)
   refine zq 3 (zn (sx_ret (sx_Z [2] [(.bool (!(pairsB l)))] (fun W' hM => ?_))))
   refine ⟨?_,hM.below⟩
   unfold resB
   rw [e1,e2]
   simp only [resV,h0,h1,bs,if_true,if_false,cond_true,cond_false,reduceIte]
def badR : Nat → List (List Pa) → Int
 | _, [] => -1
 | i, x :: r => if !resB x then (i : Int) else badR (i + 1) r
theorem badR_drop {l : List (List Pa)} {i : Nat} {y : List Pa} (h : l[i]? = some y) : badR i (l.drop i) = if !resB y then (i : Int) else badR (i + 1) (l.drop (i + 1)) := by
 rw [drop_some h, badR]
theorem badR_has : ∀ (i : Nat) (l : List (List Pa)), decide (badR i l ≥ 0) = !l.all resB
 | _, [] => rfl
 | i, x :: r => by
  rw [badR, List.all_cons]
  cases resB x with
  | false => simp
  | true => simpa using badR_has (i + 1) r
theorem badIdx_any (l : List (List Pa)) (a : Option Addr) (c : Nat) (w : World) {U : View} (hU : ∀ a v, U a = some v → w.cell? a = some v) (hl : LsAt RlR 1 U a l) : Calls Tryz.prog 208 #[.slice a l.length c, .func (.func 175) #[] #[]] w (Ret (.int .i64 (badR 0 l)) w) := by
 have hlen := hl.len
 unfold R47 at hlen
 refine sx_enter (f := 208) 19 U Tryz.func208 rfl rfl rfl hU ?_
 refine zQ 1 (zn (zs (zQ 3 (zn (sx_block ?_)))))
 refine sx_loop (α := Nat) (fun x => [0,1,4,7,8].zip [(.slice a l.length c),(.func (.func 175) #[] #[]),(I6 0),(L6 l.length),(L6 x)]) (fun x => U) (fun x => []) (fun x => x ≤ l.length ∧ badR x (l.drop x) = badR 0 l) (fun x => l.length - x) 0 ?_ (look_zip _ _ (by kernel_rfl)) (fun _ h => h.eqv (by kernel_rfl)) ?_
 · exact ⟨Nat.zero_le _,rfl⟩
 intro x hx
 obtain ⟨hx1,hx2⟩ := hx
 refine zQ 1 (zn (zs (sx_D (decide (((x : Nat) : Int) < (((l.length : Nat)) : Int))) (fun h0 => ?_) (fun h0 => ?_))))
 ·
  have h0d := of_decide_eq_true h0
  refine zk (zs (sx_block (zQ 2 (zn (zQ 3 ?_)))))
  obtain ⟨y0,hy0⟩ : ∃ y,(l)[x]? = some y := ⟨(l)[x]'(by omega),List.getElem?_eq_getElem _⟩
  obtain ⟨b0,f0,cs0,rfl,hU0,hR0⟩ := hl.at_ x y0 hy0
  obtain ⟨a0,c0,rfl,hp0⟩ := hR0
  have hW0 := View.range1 hU0
  refine sx_R (Pt b0 (f0 + x)) (run_ix1 _ 93 _ _ rfl b0 f0 l.length c x .i64 (by kernel_rfl) (by kernel_rfl) (by first | assumption | omega) (by kernel_rfl) (by kernel_rfl)) ?_
  refine zV b0 (f0 + x) (.slice a0 y0.length c0) hW0 93 (.tmp 14) _ Tryz.underlying93 rfl ?_
  refine sx_C 175 #[(.slice a0 y0.length c0)] (.bool (!resB y0)) (fun W hM => shaped1_any y0 _ _ W hM.view hp0) ?_
  refine zn (sx_D (!resB y0) (fun h1 => ?_) (fun h1 => ?_))
  ·
   refine zQ 2 (zn (sx_ret (sx_Z [4] [(L6 x)] (fun W' hM => ?_))))
   refine ⟨?_,hM.below⟩
   rw [← hx2,badR_drop hy0,if_pos h1]
   rfl
  ·
   refine zk (zr (zq 1 (sx_E 18 (I6 (IntKind.i64.wrap (((x : Nat) : Int) + 1))) (I6 (((x : Nat) : Int) + 1)) i6v ?_)))
   refine zq 1 (zn ?_)
   refine ⟨(x + 1),?_,?_,look_zip _ _ (by kernel_rfl),fun _ h => h.eqv (by kernel_rfl)⟩
   · exact ⟨by omega,by rw [← hx2,badR_drop hy0,h1]; rfl⟩
   · show l.length - (x + 1) < l.length - x; omega
 ·
  have h0d := of_decide_eq_false h0
  refine sx_exit (zQ 1 (zn (sx_ret (sx_Z [4] [(I6 (-1))] (fun W' hM => ?_)))))
  refine ⟨?_,hM.below⟩
  rw [← hx2,drop_all (by omega)]
  rfl
theorem badAny_any (l : List (List Pa)) (a : Option Addr) (c : Nat) (w : World) {U : View} (hU : ∀ a v, U a = some v → w.cell? a = some v) (hl : LsAt RlR 1 U a l) : Calls Tryz.prog 174 #[.slice a l.length c, .func (.func 175) #[] #[]] w (Ret (.bool (!l.all resB)) w) := by
 refine sx_enter (f := 174) 9 U Tryz.func174 rfl rfl rfl hU ?_
 refine zQ 1 (zn (zQ 2 (sx_C 208 #[(.slice a l.length c),(.func (.func 175) #[] #[])] (I6 (badR 0 l)) (fun W hM => badIdx_any l _ _ W hM.view hl) ?_)))
 refine zq 2 (zn (sx_ret (sx_Z [4] [(.bool (decide ((badR 0 l) ≥ 0)))] (fun W' hM => ?_))))
 exact ⟨by rw [← badR_has 0 l]; rfl,hM.below⟩
set_option maxHeartbeats 16000000 in
theorem shaped_any (a : As) (aT aP aR : Option Addr) (cT cP cR : Nat) (w : World) {U : View} (hU : ∀ a v, U a = some v → w.cell? a = some v) (hA : AsAt U aT aP aR a) (hc : a.t.length ≤ cT) : Calls Tryz.prog 134 #[asV a aT aP aR cT cP cR] w (Ret (.bool (shapedB a)) w) := by
 have fA1 := hA.t
 have fA2 := hA.p
 have fA3 := hA.r
 have e1 : decide (1 ≤ a.t.length) = !decide (((a.t.length : Nat) : Int) < 1) := by rw [← decide_not]; exact decide_eq_decide.2 (by omega)
 have e2 : decide (a.t.length ≤ 16) = !decide (((a.t.length : Nat) : Int) > 16) := by rw [← decide_not]; exact decide_eq_decide.2 (by omega)
 have e3 : decide (a.p.length ≤ 8) = !decide (((a.p.length : Nat) : Int) > 8) := by rw [← decide_not]; exact decide_eq_decide.2 (by omega)
 have e4 : decide (a.r.length = a.t.length) = !(((a.r.length : Nat) : Int) != ((a.t.length : Nat) : Int)) := by
  by_cases h : a.r.length = a.t.length
  · rw [h]; simp
  · rw [decide_eq_false h,show (((a.r.length : Nat) : Int) != ((a.t.length : Nat) : Int)) = true from bne_iff_ne.2 (by omega)]; rfl
 refine sx_enter (f := 134) 52 U Tryz.func134 rfl rfl rfl hU ?_
 refine zs (zr (sx_N (fun b0 => (zq 1 (zn (zB [0,1,0,0] [(b0,1)] (zn (zs (zQ 3 (sx_BL 9 (decide ((((a.t.length : Nat)) : Int) < 1)) (fun h0 => ?_) (fun h0 => ?_)))))))))))
 ·
  refine zq 21 (zn (sx_T (zQ 1 (zn (sx_ret (sx_Z [2] [(.bool false)] (fun W' hM => ?_)))))))
  refine ⟨?_,hM.below⟩
  unfold shapedB
  rw [e1,e2,e3,e4]
  simp only [resV,h0,Bool.not_not,bs,if_true,if_false,cond_true,cond_false,reduceIte]
 ·
  have h0d := of_decide_eq_false h0
  refine zq 4 (sx_BL 13 (decide ((((a.t.length : Nat)) : Int) > 16)) (fun h1 => ?_) (fun h1 => ?_))
  ·
   refine zq 17 (zn (sx_T (zQ 1 (zn (sx_ret (sx_Z [2] [(.bool false)] (fun W' hM => ?_)))))))
   refine ⟨?_,hM.below⟩
   unfold shapedB
   rw [e1,e2,e3,e4]
   simp only [resV,h0,h1,Bool.not_not,bs,if_true,if_false,cond_true,cond_false,reduceIte]
  ·
   have h1d := of_decide_eq_false h1
   refine sx_B [0,1] [(b0,1)] (sx_C 171 #[(.slice aT a.t.length cT)] (.bool (unlikeB a.t)) (fun W hM => unlike_any a.t _ _ W hM.view fA1 hc) ?_)
   refine zq 3 (sx_BL 19 (!(unlikeB a.t)) (fun h2 => ?_) (fun h2 => ?_))
   ·
    refine zq 11 (zn (sx_T (zQ 1 (zn (sx_ret (sx_Z [2] [(.bool false)] (fun W' hM => ?_)))))))
    simp only [Bool.not_eq_true',Bool.not_eq_false'] at h2
    refine ⟨?_,hM.below⟩
    unfold shapedB
    rw [e1,e2,e3,e4]
    simp only [resV,h0,h1,h2,Bool.not_not,bs,if_true,if_false,cond_true,cond_false,reduceIte]
   ·
    refine sx_B [0,1] [(b0,1)] (sx_C 172 #[(I6 a.c)] (.bool (asCoded a.c)) (fun W hM => aCoded_any a.c W) ?_)
    refine zq 3 (sx_BL 25 (!(asCoded a.c)) (fun h3 => ?_) (fun h3 => ?_))
    ·
     refine zq 5 (zn (sx_T (zQ 1 (zn (sx_ret (sx_Z [2] [(.bool false)] (fun W' hM => ?_)))))))
     simp only [Bool.not_eq_true',Bool.not_eq_false'] at h2
     simp only [Bool.not_eq_true',Bool.not_eq_false'] at h3
     refine ⟨?_,hM.below⟩
     unfold shapedB
     rw [e1,e2,e3,e4]
     simp only [resV,h0,h1,h2,h3,Bool.not_not,bs,if_true,if_false,cond_true,cond_false,reduceIte]
    ·
     refine sx_B [0,1] [(b0,4)] (sx_C 37 #[(.agg #[(I6 a.s.s),(St a.s.l),(N6 a.s.n),(N6 a.s.v)])] (.bool (eiRight a.s)) (fun W hM => eRight_any a.s W hA.s.l) ?_)
     refine zq 2 (zn (sx_D (!(eiRight a.s)) (fun h4 => ?_) (fun h4 => ?_)))
     ·
      refine zQ 1 (zn (sx_ret (sx_Z [2] [(.bool false)] (fun W' hM => ?_))))
      simp only [Bool.not_eq_true',Bool.not_eq_false'] at h2
      simp only [Bool.not_eq_true',Bool.not_eq_false'] at h3
      simp only [Bool.not_eq_true',Bool.not_eq_false'] at h4
      refine ⟨?_,hM.below⟩
      unfold shapedB
      rw [e1,e2,e3,e4]
      simp only [resV,h0,h1,h2,h3,h4,Bool.not_not,bs,if_true,if_false,cond_true,cond_false,reduceIte]
     ·
      refine zk (zs (zB [0,1,0,0,0] [(b0,1)] (sx_BL 35 (decide ((((a.p.length : Nat)) : Int) > 8)) (fun h5 => ?_) (fun h5 => ?_))))
      ·
       refine zq 12 (zn (sx_T (zQ 1 (zn (sx_ret (sx_Z [2] [(.bool false)] (fun W' hM => ?_)))))))
       simp only [Bool.not_eq_true',Bool.not_eq_false'] at h2
       simp only [Bool.not_eq_true',Bool.not_eq_false'] at h3
       simp only [Bool.not_eq_true',Bool.not_eq_false'] at h4
       refine ⟨?_,hM.below⟩
       unfold shapedB
       rw [e1,e2,e3,e4]
       simp only [resV,h0,h1,h2,h3,h4,h5,Bool.not_not,bs,if_true,if_false,cond_true,cond_false,reduceIte]
      ·
       have h5d := of_decide_eq_false h5
       refine sx_B [0,1] [(b0,1)] (sx_C 173 #[(.slice aP a.p.length cP)] (.bool (pairsB a.p)) (fun W hM => pairs_any a.p _ _ W hM.view fA2 (by omega)) ?_)
       refine zq 3 (sx_BL 41 (!(pairsB a.p)) (fun h6 => ?_) (fun h6 => ?_))
       ·
        refine zq 6 (zn (sx_T (zQ 1 (zn (sx_ret (sx_Z [2] [(.bool false)] (fun W' hM => ?_)))))))
        simp only [Bool.not_eq_true',Bool.not_eq_false'] at h2
        simp only [Bool.not_eq_true',Bool.not_eq_false'] at h3
        simp only [Bool.not_eq_true',Bool.not_eq_false'] at h4
        simp only [Bool.not_eq_true',Bool.not_eq_false'] at h6
        refine ⟨?_,hM.below⟩
        unfold shapedB
        rw [e1,e2,e3,e4]
        simp only [resV,h0,h1,h2,h3,h4,h5,h6,Bool.not_not,bs,if_true,if_false,cond_true,cond_false,reduceIte]
       ·
        refine sx_B [0,1,0,0,0,0] [(b0,1)] (zn (sx_D ((((a.r.length : Nat)) : Int) != (((a.t.length : Nat)) : Int)) (fun h7 => ?_) (fun h7 => ?_)))
        ·
         refine zQ 1 (zn (sx_ret (sx_Z [2] [(.bool false)] (fun W' hM => ?_))))
         simp only [Bool.not_eq_true',Bool.not_eq_false'] at h2
         simp only [Bool.not_eq_true',Bool.not_eq_false'] at h3
         simp only [Bool.not_eq_true',Bool.not_eq_false'] at h4
         simp only [Bool.not_eq_true',Bool.not_eq_false'] at h6
         refine ⟨?_,hM.below⟩
         unfold shapedB
         rw [e1,e2,e3,e4]
         simp only [resV,h0,h1,h2,h3,h4,h5,h6,h7,Bool.not_not,bs,if_true,if_false,cond_true,cond_false,reduceIte]
        ·
         refine zk (zB [0,1] [(b0,1)] (sx_C 174 #[(.slice aR a.r.length cR),(.func (.func 175) #[] #[])] (.bool (!a.r.all resB)) (fun W hM => badAny_any a.r _ _ W hM.view fA3) ?_))
         refine zq 2 (zn (sx_ret (sx_Z [2] [(.bool (!(!a.r.all resB)))] (fun W' hM => ?_))))
         simp only [Bool.not_eq_true',Bool.not_eq_false'] at h2
         simp only [Bool.not_eq_true',Bool.not_eq_false'] at h3
         simp only [Bool.not_eq_true',Bool.not_eq_false'] at h4
         simp only [Bool.not_eq_true',Bool.not_eq_false'] at h6
         refine ⟨?_,hM.below⟩
         unfold shapedB
         rw [e1,e2,e3,e4]
         simp only [resV,h0,h1,h2,h3,h4,h5,h6,h7,Bool.not_not,bs,if_true,if_false,cond_true,cond_false,reduceIte]
theorem idU {n : Int} (h : 0 ≤ n ∧ n ≤ 65535) : IntKind.u64.wrap n = ((n.toNat : Nat) : Int) := by
 have := u64_in (x := n) (by omega) (by omega)
 omega
set_option maxHeartbeats 16000000 in
theorem aList_any (l : List Pa) (a : Option Addr) (c : Nat) (w : World) {U : View} (hU : ∀ a v, U a = some v → w.cell? a = some v) (hl : LsAt PaR 6 U a l) (hid : ∀ p ∈ l, 0 ≤ p.id ∧ p.id ≤ 65535) (h47 : l.length ≤ 1000) : Calls Tryz.prog 176 #[.slice a l.length c] w (RetN w U (ItemOf (pasT l))) := by
 refine sx_enter (f := 176) 26 U Tryz.func176 rfl rfl rfl hU ?_
 refine zs (zr (sx_N (fun b0 => (zn (zQ 1 (zn (zs (zQ 3 (zn (sx_block ?_))))))))))
 refine sx_loop (α := Gp Itm.Tr) (fun x => [2,3,6,7,8].zip [(Pt b0 0),(x.r.V x.i),(.slice a l.length c),(L6 l.length),(L6 x.i)]) (fun x => x.V) (fun x => ([(b0,.cells [(I6 0),(U6 0),(St []),S0,(.bool false)].toArray 89 (0,0))] ++ x.r.B 89 x.xs)) (fun x => x.i ≤ l.length ∧ View.le U x.V ∧ RwR TV 5 x.V x.r x.xs x.i x.L ∧ x.L.map Prod.fst = (l.take x.i).map Pa.tree) (fun x => l.length - x.i) ⟨0,Rw.nil,[],[],U⟩ ?_ (look_zip _ _ (by kernel_rfl)) (fun _ h => h.eqv (Eq.trans (by kernel_rfl) (List.append_nil ([(b0,.cells [(I6 0),(U6 0),(St []),S0,(.bool false)].toArray 89 (0,0))] : Blks)).symm)) ?_
 · exact ⟨Nat.zero_le _,View.le_refl _,RwR.nil,rfl⟩
 intro x hx
 obtain ⟨hxi,hxl,hxr,hxp⟩ := hx
 refine zQ 1 (zn (zs (sx_D (decide (((x.i : Nat) : Int) < (((l.length : Nat)) : Int))) (fun h0 => ?_) (fun h0 => ?_))))
 ·
  have h0d := of_decide_eq_true h0
  refine zk (zs (sx_block (zs (zr ?_))))
  obtain ⟨y1,hy1⟩ : ∃ y,(l)[x.i]? = some y := ⟨(l)[x.i]'(by omega),List.getElem?_eq_getElem _⟩
  obtain ⟨b1,f1,cs1,rfl,hU1,hR1⟩ := (hl.le hxl).at_ x.i y1 hy1
  obtain ⟨ct1,rfl,ht1⟩ := hR1
  obtain ⟨a1,c1,rfl,hts1,hn1,hs1,hl1⟩ := ht1.form
  have hidy1 := hid y1 (List.mem_of_getElem? hy1)
  refine sx_R (Pt b1 (f1 + x.i * 6)) (rIx 92 rfl b1 f1 l.length c x.i 6) ?_
  refine zU b1 (f1 + x.i * 6) [(I6 y1.id),(I6 y1.v.k),(N6 y1.v.n),(St y1.v.s),(.slice a1 y1.v.l.length c1),(.bool y1.v.o)] hU1 92 (.tmp 10) _ Tryz.underlying92 rfl ?_
  refine sx_NI 1 (fun b2 => ?_)
  refine sx_S 1 b2 (zn ?_)
  refine sx_drawnQ 10 2 4 [12,13,14,15,16,17,18,19,20,21] [.val (x.r.V x.i),.val (Pt b2 0),.val (I6 y1.id),.val (N6 y1.id.toNat),.val (.agg #[(I6 0),(N6 y1.id.toNat),(St []),S0,(.bool false)]),.val (Pt b2 1),.val (.agg #[(I6 y1.v.k),(N6 y1.v.n),(St y1.v.s),(.slice a1 y1.v.l.length c1),(.bool y1.v.o)]),.mem (fun v V => ∃ g,v = (Sl g 0 2 2) ∧ TsAt V (some ⟨g,0,none⟩) [(Itm.numT y1.id.toNat),y1.v]),.mem (fun v V => ∃ g,v = (.agg #[.int .i64 4,.int .u64 0,.string (B []),.slice (some ⟨g,0,none⟩) 2 2,.bool false]) ∧ TsAt V (some ⟨g,0,none⟩) [(Itm.numT y1.id.toNat),y1.v]),.mem (fun v V => ∃ g,v = (Sl g 0 1 1) ∧ TsAt V (some ⟨g,0,none⟩) [(Itm.arrT [(Itm.numT y1.id.toNat),y1.v])])] (by kernel_rfl) rfl rfl (by kernel_rfl) (by kernel_rfl) (by kernel_rfl) (by kernel_rfl) (by kernel_rfl) (by kernel_rfl) (by simp only [List.forall_mem_cons]; exact ⟨trivial,trivial,trivial,trivial,trivial,trivial,trivial,by intro v V V2 hV2 hP; (first | trivial | exact PhiMono.go hP hV2 | (obtain ⟨g,e,hP⟩ := hP; exact ⟨g,e,hP.le hV2⟩)),by intro v V V2 hV2 hP; (first | trivial | exact PhiMono.go hP hV2 | (obtain ⟨g,e,hP⟩ := hP; exact ⟨g,e,hP.le hV2⟩)),by intro v V V2 hV2 hP; (first | trivial | exact PhiMono.go hP hV2 | (obtain ⟨g,e,hP⟩ := hP; exact ⟨g,e,hP.le hV2⟩)),fun _ h => by cases h⟩) ⟨?_,?_,?_,?_,?_,?_,?_,?_,?_,?_,trivial⟩ [2,3,5,6,7,8,9,10,11,12,13,14,15,16,17,18,19,20,21] (fun u => [(Pt b0 0),(x.r.V x.i),(Pt b2 0),(Sl b1 f1 l.length c),(L6 l.length),(L6 x.i),(.bool (decide (((x.i : Nat) : Int) < (((l.length : Nat)) : Int)))),(Pt b1 (f1 + x.i * 6)),(.agg #[(I6 y1.id),(I6 y1.v.k),(N6 y1.v.n),(St y1.v.s),(.slice a1 y1.v.l.length c1),(.bool y1.v.o)]),(x.r.V x.i),(Pt b2 0),(I6 y1.id),(N6 y1.id.toNat),(.agg #[(I6 0),(N6 y1.id.toNat),(St []),S0,(.bool false)]),(Pt b2 1),(.agg #[(I6 y1.v.k),(N6 y1.v.n),(St y1.v.s),(.slice a1 y1.v.l.length c1),(.bool y1.v.o)]),u 7,u 8,u 9]) (fun u => by kernel_rfl) ?_
  · exact oqQ 0 rfl (x.r.V x.i) (x.r.V x.i) rfl rfl (fun u => by kernel_rfl) (fun u => by kernel_rfl)
  · exact oqQ 1 rfl (Pt b2 0) (Pt b2 0) rfl rfl (fun u => by kernel_rfl) (fun u => by kernel_rfl)
  · exact oqL 2 1 b2 1 [(I6 y1.id),(I6 y1.v.k),(N6 y1.v.n),(St y1.v.s),(.slice a1 y1.v.l.length c1),(.bool y1.v.o)] 92 rfl (I6 y1.id) rfl (by kernel_rfl) (fun u => by kernel_rfl) (fun u => by kernel_rfl)
  · exact oqQ 3 rfl (U6 (IntKind.u64.wrap y1.id)) (N6 y1.id.toNat) (congrArg (Value.int .u64) (idU hidy1)) rfl (fun u => by kernel_rfl) (fun u => by kernel_rfl)
  ·
   refine oqV 4 40 rfl rfl (.agg #[(I6 0),(N6 y1.id.toNat),(St []),S0,(.bool false)]) rfl [15] (fun u => [(N6 y1.id.toNat)]) (fun u => by kernel_rfl) (fun u V hV hdq => ?_)
   refine ⟨#[(N6 y1.id.toNat)],by kernel_rfl,fun W hW => ?_⟩
   exact iNum_any _ W
  · exact oqQ 5 rfl (Pt b2 1) (Pt b2 1) rfl rfl (fun u => by kernel_rfl) (fun u => by kernel_rfl)
  · exact oqL 6 1 b2 5 [(I6 y1.id),(I6 y1.v.k),(N6 y1.v.n),(St y1.v.s),(.slice a1 y1.v.l.length c1),(.bool y1.v.o)] 92 rfl (.agg #[(I6 y1.v.k),(N6 y1.v.n),(St y1.v.s),(.slice a1 y1.v.l.length c1),(.bool y1.v.o)]) rfl (by kernel_rfl) (fun u => by kernel_rfl) (fun u => by kernel_rfl)
  ·
   refine oqN 7 rfl rfl (fun v V => ∃ g,v = (Sl g 0 2 2) ∧ TsAt V (some ⟨g,0,none⟩) [(Itm.numT y1.id.toNat),y1.v]) rfl [16,18] (fun u => [(.agg #[(I6 0),(N6 y1.id.toNat),(St []),S0,(.bool false)]),(.agg #[(I6 y1.v.k),(N6 y1.v.n),(St y1.v.s),(.slice a1 y1.v.l.length c1),(.bool y1.v.o)])]) (fun u => by kernel_rfl) (fun u V hV hdq => ?_)
   refine ⟨[(I6 0),(N6 y1.id.toNat),(St []),S0,(.bool false),(I6 y1.v.k),(N6 y1.v.n),(St y1.v.s),(.slice a1 y1.v.l.length c1),(.bool y1.v.o)],89,fun r => (Sl r 0 2 2),?_,fun g V' hV' hR => ?_⟩
   · kernel_rfl
   exact ⟨g,rfl,TsAt.lit [((Itm.numT y1.id.toNat),[(I6 0),(N6 y1.id.toNat),(St []),S0,(.bool false)]),(y1.v,[(I6 y1.v.k),(N6 y1.v.n),(St y1.v.s),(.slice a1 y1.v.l.length c1),(.bool y1.v.o)])] hR ⟨((TV.num _ y1.id.toNat (by first | assumption | decide | (unfold W64; omega))).le hV).le hV',(ht1.le hV).le hV',trivial⟩ (show 2 ≤ R47 by decide)⟩
  ·
   refine oqM 8 178 rfl rfl (fun v V => ∃ g,v = (.agg #[.int .i64 4,.int .u64 0,.string (B []),.slice (some ⟨g,0,none⟩) 2 2,.bool false]) ∧ TsAt V (some ⟨g,0,none⟩) [(Itm.numT y1.id.toNat),y1.v]) rfl [19] (fun u => [u 7]) (fun u => by kernel_rfl) (fun u V hV hdq => ?_)
   have e7 : (fun v V => ∃ g,v = (Sl g 0 2 2) ∧ TsAt V (some ⟨g,0,none⟩) [(Itm.numT y1.id.toNat),y1.v]) (u 7) V := hdq 7 (by kernel_rfl)
   obtain ⟨g7,q7,t7⟩ := e7
   refine ⟨#[u 7],by kernel_rfl,fun W hW => ?_⟩
   rw [q7]
   exact Calls.retN hW (iList_any _ _ _ W) ⟨g7,rfl,t7⟩
  ·
   refine oqN 9 rfl rfl (fun v V => ∃ g,v = (Sl g 0 1 1) ∧ TsAt V (some ⟨g,0,none⟩) [(Itm.arrT [(Itm.numT y1.id.toNat),y1.v])]) rfl [20] (fun u => [u 8]) (fun u => by kernel_rfl) (fun u V hV hdq => ?_)
   have e8 : (fun v V => ∃ g,v = (.agg #[.int .i64 4,.int .u64 0,.string (B []),.slice (some ⟨g,0,none⟩) 2 2,.bool false]) ∧ TsAt V (some ⟨g,0,none⟩) [(Itm.numT y1.id.toNat),y1.v]) (u 8) V := hdq 8 (by kernel_rfl)
   obtain ⟨g8,q8,t8⟩ := e8
   refine ⟨[(I6 4),(U6 0),(St []),(Sl g8 0 2 2),(.bool false)],89,fun r => (Sl r 0 1 1),?_,fun g V' hV' hR => ?_⟩
   · rw [q8]; kernel_rfl
   exact ⟨g,rfl,TsAt.lit [((Itm.arrT [(Itm.numT y1.id.toNat),y1.v]),[(I6 4),(U6 0),(St []),(Sl g8 0 2 2),(.bool false)])] hR ⟨(TV.list 2 t8).le hV',trivial⟩ (show 1 ≤ R47 by decide)⟩
  intro u3 V3 hV3 hdq3
  have k8 := hxr.le hV3
  have e7_3 : (fun v V => ∃ g,v = (Sl g 0 2 2) ∧ TsAt V (some ⟨g,0,none⟩) [(Itm.numT y1.id.toNat),y1.v]) (u3 7) V3 := hdq3 7 (by decide)
  obtain ⟨g7_3,q7_3,t7_3⟩ := e7_3
  rw [q7_3]
  have e8_3 : (fun v V => ∃ g,v = (.agg #[.int .i64 4,.int .u64 0,.string (B []),.slice (some ⟨g,0,none⟩) 2 2,.bool false]) ∧ TsAt V (some ⟨g,0,none⟩) [(Itm.numT y1.id.toNat),y1.v]) (u3 8) V3 := hdq3 8 (by decide)
  obtain ⟨g8_3,q8_3,t8_3⟩ := e8_3
  rw [q8_3]
  have e9_3 : (fun v V => ∃ g,v = (Sl g 0 1 1) ∧ TsAt V (some ⟨g,0,none⟩) [(Itm.arrT [(Itm.numT y1.id.toNat),y1.v])]) (u3 9) V3 := hdq3 9 (by decide)
  obtain ⟨g9_3,q9_3,t9_3⟩ := e9_3
  rw [q9_3]
  obtain ⟨bb9,ff9,L9,e9,hF9,hA9,hG9⟩ := t9_3.open (by simp)
  cases e9
  have hN9 : L9.length = 1 := by rw [← List.length_map (f := Prod.fst),hF9]; rfl
  refine sx_appE x.r x.xs x.i [(b0,.cells [(I6 0),(U6 0),(St []),S0,(.bool false)].toArray 89 (0,0)),(bK b2 [(I6 y1.id),(I6 y1.v.k),(N6 y1.v.n),(St y1.v.s),(.slice a1 y1.v.l.length c1),(.bool y1.v.o)] 92)] 89 87 5 64 1 (by kernel_rfl) hxr.ok (.tmp 12) (.tmp 21) rfl (by kernel_rfl) g9_3 0 1 (L9.flatMap Prod.snd) (by kernel_rfl) (fun W hM => View.range_of hG9 hM.view) (by rw [hA9.flat_len,hN9]) hA9.one (by decide) (by unfold maxLen; omega) (by omega) (by kernel_rfl) (by kernel_rfl) (by kernel_rfl) (by kernel_rfl) (by kernel_rfl) (fun r10 hr10 => ?_)
  refine zq 1 (zn (zr (zq 1 (sx_E 23 (I6 (IntKind.i64.wrap (((x.i : Nat) : Int) + 1))) (I6 (((x.i : Nat) : Int) + 1)) i6v ?_))))
  refine zq 1 (zn ?_)
  refine ⟨⟨x.i + 1,r10,(x.xs ++ (L9.flatMap Prod.snd)),x.L ++ L9,V3⟩,?_,?_,look_zip _ _ (by kernel_rfl),fun _ h => Mem.sub (List.Sublist.append (List.sublist_append_left _ _) (List.Sublist.refl _)) (h.eqv (show _ = ((([(b0,.cells [(I6 0),(U6 0),(St []),S0,(.bool false)].toArray 89 (0,0))] : Blks) ++ ([(bK b2 [(I6 y1.id),(I6 y1.v.k),(N6 y1.v.n),(St y1.v.s),(.slice a1 y1.v.l.length c1),(.bool y1.v.o)] 92)] : Blks)) ++ (r10.B 89 (x.xs ++ (L9.flatMap Prod.snd)))) from by kernel_rfl))⟩
  · exact ⟨by show x.i + 1 ≤ _; omega,(View.le_trans hxl hV3),RwR.app k8 (allTV_R hA9) hN9 hr10,by rw [List.map_append,hxp,hF9,take_map_succ Pa.tree hy1]; rfl⟩
  · show l.length - (x.i + 1) < l.length - x.i; omega
 ·
  have h0d := of_decide_eq_false h0
  refine sx_exit (zQ 1 ?_)
  refine sx_fz 24 x.r x.xs 5 x.i [(b0,.cells [(I6 0),(U6 0),(St []),S0,(.bool false)].toArray 89 (0,0))] 89 (by kernel_rfl) hxr.ok (by kernel_rfl) (fun a11 c11 V11 hV11 hR11 hE11 => ?_)
  have k12 := hxr.le hV11
  have hT11 := (k12.done (by decide) hR11 (View.le_refl _) (by unfold R47; omega)).ts
  rw [hxp,List.take_of_length_le (by omega)] at hT11
  rw [show x.i = (l.map Pa.tree).length by rw [List.length_map]; omega]
  refine sx_C 178 #[(.slice a11 (l.map Pa.tree).length c11)] (.agg #[(I6 4),(U6 0),(St []),(.slice a11 (l.map Pa.tree).length c11),(.bool false)]) (fun W hM => iList_any _ _ _ W) ?_
  refine sx_S 0 b0 (zn (sx_ret ?_))
  refine sx_ret_any [.cell 2 89] [(.agg #[(I6 4),(U6 0),(St []),(.slice a11 (l.map Pa.tree).length c11),(.bool false)])] rfl ⟨(retK' 0 b0 5),trivial⟩ (fun W' hM => ?_)
  exact retN_of hM (View.le_trans hxl hV11) ⟨[(I6 4),(U6 0),(St []),(.slice a11 (l.map Pa.tree).length c11),(.bool false)],rfl,((TV.list c11 hT11)).cast (by simp only [pasT,h0,bs,if_true,if_false,cond_true,cond_false,reduceIte,List.append_nil])⟩
set_option maxHeartbeats 16000000 in
theorem aItems_any (a : As) (aT aP aR : Option Addr) (cT cP cR : Nat) (w : World) {U : View} (hU : ∀ a v, U a = some v → w.cell? a = some v) (hA : AsAt U aT aP aR a) (hs : shapedB a = true) : Calls Tryz.prog 135 #[asV a aT aP aR cT cP cR] w (RetN w U (TsOf a.items)) := by
 have fA1 := hA.t
 have fA2 := hA.p
 have fA3 := hA.r
 unfold shapedB at hs
 simp only [Bool.and_eq_true,decide_eq_true_eq] at hs
 obtain ⟨⟨⟨⟨⟨⟨⟨⟨h1,h2⟩,h3⟩,h4⟩,h5⟩,h6⟩,h7⟩,h8⟩,h9⟩ := hs
 have hct := unlikeB_coded h3
 have hcc := asCoded_true h4
 have hcp := pairsB_coded h7
 have hcr : ∀ l ∈ a.r,(∀ p ∈ l,0 ≤ p.id ∧ p.id ≤ 65535) ∧ l.length ≤ 4 := fun l hl => by
  have := List.all_eq_true.1 h9 l hl
  unfold resB at this
  simp only [Bool.and_eq_true,decide_eq_true_eq] at this
  exact ⟨pairsB_coded this.2,this.1.2⟩
 have hw4 := idU hcc
 refine sx_enter (f := 135) 67 U Tryz.func135 rfl rfl rfl hU ?_
 refine zs (zr (sx_N (fun b0 => (zq 1 (zn (zQ 2 (zn (zs (zB [0,1,0,0] [(b0,1)] (zn (sx_block ?_)))))))))))
 refine sx_loop (α := Gp2) (fun x => [1,2,3,4,11,12,13].zip [(Pt b0 0),S0,(x.r.V x.i),(x.r2.V x.i),(.slice aT a.t.length cT),(L6 a.t.length),(L6 x.i)]) (fun x => x.V) (fun x => ([(bK b0 [(.slice aT a.t.length cT),(I6 a.c),(I6 a.s.s),(St a.s.l),(N6 a.s.n),(N6 a.s.v),(.slice aP a.p.length cP),(.slice aR a.r.length cR)] 96)] ++ x.r.B 89 x.xs ++ x.r2.B 89 x.xs2)) (fun x => x.i ≤ a.t.length ∧ View.le U x.V ∧ RwR TV 5 x.V x.r x.xs x.i x.L ∧ RwR TV 5 x.V x.r2 x.xs2 x.i x.L2 ∧ x.L.map Prod.fst = (a.t.take x.i).map (fun n => Itm.numT n.toNat) ∧ x.L2.map Prod.fst = (a.r.take x.i).map pasT) (fun x => a.t.length - x.i) ⟨0,Rw.nil,[],[],Rw.nil,[],[],U⟩ ?_ (look_zip _ _ (by kernel_rfl)) (fun _ h => h.eqv (Eq.trans (by kernel_rfl) ((List.append_nil (([(bK b0 [(.slice aT a.t.length cT),(I6 a.c),(I6 a.s.s),(St a.s.l),(N6 a.s.n),(N6 a.s.v),(.slice aP a.p.length cP),(.slice aR a.r.length cR)] 96)] : Blks) ++ [])).trans (List.append_nil ([(bK b0 [(.slice aT a.t.length cT),(I6 a.c),(I6 a.s.s),(St a.s.l),(N6 a.s.n),(N6 a.s.v),(.slice aP a.p.length cP),(.slice aR a.r.length cR)] 96)] : Blks))).symm)) ?_
 · exact ⟨Nat.zero_le _,View.le_refl _,RwR.nil,RwR.nil,rfl,rfl⟩
 intro x hx
 obtain ⟨hxi,hxl,hxr,hxr2,hx5,hx6⟩ := hx
 refine zQ 1 (zn (zs (sx_D (decide (((x.i : Nat) : Int) < (((a.t.length : Nat)) : Int))) (fun h0 => ?_) (fun h0 => ?_))))
 ·
  have h0d := of_decide_eq_true h0
  refine zk (zs (sx_block (zQ 1 ?_)))
  obtain ⟨y1,hy1⟩ : ∃ y,(a.t)[x.i]? = some y := ⟨(a.t)[x.i]'(by omega),List.getElem?_eq_getElem _⟩
  obtain ⟨b1,f1,rfl,hU1⟩ := (fA1.le hxl).one hy1
  have hidy1 := hct y1 (List.mem_of_getElem? hy1)
  refine sx_R (Pt b1 (f1 + x.i)) (run_ix1 _ 3 _ _ rfl b1 f1 a.t.length cT x.i .i64 (by kernel_rfl) (by kernel_rfl) (by first | assumption | omega) (by kernel_rfl) (by kernel_rfl)) ?_
  refine zV b1 (f1 + x.i) (I6 y1) hU1 3 (.tmp 16) _ Tryz.underlying3 rfl ?_
  refine zq 2 (zn (zQ 3 (sx_E 20 (U6 (IntKind.u64.wrap y1)) (N6 y1.toNat) (congrArg (Value.int .u64) (idU hidy1)) ?_)))
  refine sx_C 40 #[(N6 y1.toNat)] (.agg #[(I6 0),(N6 y1.toNat),(St []),S0,(.bool false)]) (fun W hM => iNum_any _ W) ?_
  refine sx_NI 1 (fun b2 => ?_)
  refine sx_permR [(bK b0 [(Sl b1 f1 a.t.length cT),(I6 a.c),(I6 a.s.s),(St a.s.l),(N6 a.s.n),(N6 a.s.v),(.slice aP a.p.length cP),(.slice aR a.r.length cR)] 96),(b2,.cells [(I6 0),(N6 y1.toNat),(St []),S0,(.bool false)].toArray 89 (0,0))] (x.r.B 89 x.xs) (x.r2.B 89 x.xs2) (by kernel_rfl) ?_
  refine sx_appE x.r x.xs x.i ([(bK b0 [(Sl b1 f1 a.t.length cT),(I6 a.c),(I6 a.s.s),(St a.s.l),(N6 a.s.n),(N6 a.s.v),(.slice aP a.p.length cP),(.slice aR a.r.length cR)] 96),(b2,.cells [(I6 0),(N6 y1.toNat),(St []),S0,(.bool false)].toArray 89 (0,0))] ++ x.r2.B 89 x.xs2) 89 87 5 64 1 (by kernel_rfl) hxr.ok (.tmp 18) (.tmp 22) rfl (by kernel_rfl) b2 0 1 [(I6 0),(N6 y1.toNat),(St []),S0,(.bool false)] (by kernel_rfl) (fun W hM => rangeAt_own hM 1 b2 [(I6 0),(N6 y1.toNat),(St []),S0,(.bool false)] 89 (by kernel_rfl)) rfl (List.all_eq_true.1 (by kernel_rfl)) (by decide) (by unfold maxLen; omega) (by omega) (by kernel_rfl) (by kernel_rfl) (by kernel_rfl) (by kernel_rfl) (by kernel_rfl) (fun r3 hr3 => ?_)
  refine zq 1 (zn (zr (sx_B [0,0,1,0] [(b0,1)] ?_)))
  obtain ⟨y4,hy4⟩ : ∃ y,(a.r)[x.i]? = some y := ⟨(a.r)[x.i]'(by omega),List.getElem?_eq_getElem _⟩
  obtain ⟨b4,f4,cs4,rfl,hU4,hR4⟩ := (fA3.le hxl).at_ x.i y4 hy4
  obtain ⟨a4,c4,rfl,hp4⟩ := hR4
  have hW4 := View.range1 hU4
  have hidy4 := hcr y4 (List.mem_of_getElem? hy4)
  refine sx_R (Pt b4 (f4 + x.i)) (run_ix1 _ 93 _ _ rfl b4 f4 a.r.length cR x.i .i64 (by kernel_rfl) (by kernel_rfl) (by first | assumption | omega) (by kernel_rfl) (by kernel_rfl)) ?_
  refine zV b4 (f4 + x.i) (.slice a4 y4.length c4) hW4 93 (.tmp 28) _ Tryz.underlying93 rfl ?_
  refine sx_O 176 #[(.slice a4 y4.length c4)] (ItemOf (pasT y4)) (fun W hM => aList_any y4 _ _ W hM.view hp4 hidy4.1 (by have := hidy4.2; omega)) (fun v5 V5 hV5 hP5 => ?_)
  have k10 := (TV.num _ y1.toNat (by first | assumption | decide | (unfold W64; omega))).le hV5
  have k11 := hxr2.le hV5
  have k12 := hxr.le hV5
  obtain ⟨cs5,rfl,ht5⟩ := hP5
  obtain ⟨a5,c5,rfl,hts5,hn5,hs5,hl5⟩ := ht5.form
  refine sx_NI 2 (fun b13 => ?_)
  refine sx_permR [(bK b0 [(Sl b1 f1 a.t.length cT),(I6 a.c),(I6 a.s.s),(St a.s.l),(N6 a.s.n),(N6 a.s.v),(.slice aP a.p.length cP),(Sl b4 f4 a.r.length cR)] 96),(b2,.cells [(I6 0),(N6 y1.toNat),(St []),S0,(.bool false)].toArray 89 (0,0)),(bK b13 [(I6 (pasT y4).k),(N6 (pasT y4).n),(St (pasT y4).s),(.slice a5 (pasT y4).l.length c5),(.bool (pasT y4).o)] 89)] (x.r2.B 89 x.xs2) (r3.B 89 (x.xs ++ [(I6 0),(N6 y1.toNat),(St []),S0,(.bool false)])) (by kernel_rfl) ?_
  refine sx_appE x.r2 x.xs2 x.i ([(bK b0 [(Sl b1 f1 a.t.length cT),(I6 a.c),(I6 a.s.s),(St a.s.l),(N6 a.s.n),(N6 a.s.v),(.slice aP a.p.length cP),(Sl b4 f4 a.r.length cR)] 96),(b2,.cells [(I6 0),(N6 y1.toNat),(St []),S0,(.bool false)].toArray 89 (0,0)),(bK b13 [(I6 (pasT y4).k),(N6 (pasT y4).n),(St (pasT y4).s),(.slice a5 (pasT y4).l.length c5),(.bool (pasT y4).o)] 89)] ++ r3.B 89 (x.xs ++ [(I6 0),(N6 y1.toNat),(St []),S0,(.bool false)])) 89 87 5 64 1 (by kernel_rfl) hxr2.ok (.tmp 24) (.tmp 31) rfl (by kernel_rfl) b13 0 1 [(I6 (pasT y4).k),(N6 (pasT y4).n),(St (pasT y4).s),(.slice a5 (pasT y4).l.length c5),(.bool (pasT y4).o)] (by kernel_rfl) (fun W hM => rangeAt_own hM 2 b13 [(I6 (pasT y4).k),(N6 (pasT y4).n),(St (pasT y4).s),(.slice a5 (pasT y4).l.length c5),(.bool (pasT y4).o)] 89 (by kernel_rfl)) rfl (List.all_eq_true.1 (by kernel_rfl)) (by decide) (by unfold maxLen; omega) (by omega) (by kernel_rfl) (by kernel_rfl) (by kernel_rfl) (by kernel_rfl) (by kernel_rfl) (fun r14 hr14 => ?_)
  refine zq 1 (zn (zr (zq 1 (sx_E 33 (I6 (IntKind.i64.wrap (((x.i : Nat) : Int) + 1))) (I6 (((x.i : Nat) : Int) + 1)) i6v ?_))))
  refine zq 1 (zn ?_)
  refine ⟨⟨x.i + 1,r3,(x.xs ++ [(I6 0),(N6 y1.toNat),(St []),S0,(.bool false)]),x.L ++ [((Itm.numT y1.toNat),[(I6 0),(N6 y1.toNat),(St []),S0,(.bool false)])],r14,(x.xs2 ++ [(I6 (pasT y4).k),(N6 (pasT y4).n),(St (pasT y4).s),(.slice a5 (pasT y4).l.length c5),(.bool (pasT y4).o)]),x.L2 ++ [((pasT y4),[(I6 (pasT y4).k),(N6 (pasT y4).n),(St (pasT y4).s),(.slice a5 (pasT y4).l.length c5),(.bool (pasT y4).o)])],V5⟩,?_,?_,look_zip _ _ (by kernel_rfl),fun _ h => Mem.sub (List.Sublist.append (List.Sublist.append (List.sublist_append_left _ _) (List.Sublist.refl _)) (List.Sublist.refl _)) (h.eqv (show _ = (((([(bK b0 [(Sl b1 f1 a.t.length cT),(I6 a.c),(I6 a.s.s),(St a.s.l),(N6 a.s.n),(N6 a.s.v),(.slice aP a.p.length cP),(Sl b4 f4 a.r.length cR)] 96)] : Blks) ++ ([(b2,.cells [(I6 0),(N6 y1.toNat),(St []),S0,(.bool false)].toArray 89 (0,0)),(bK b13 [(I6 (pasT y4).k),(N6 (pasT y4).n),(St (pasT y4).s),(.slice a5 (pasT y4).l.length c5),(.bool (pasT y4).o)] 89)] : Blks)) ++ (r3.B 89 (x.xs ++ [(I6 0),(N6 y1.toNat),(St []),S0,(.bool false)]))) ++ (r14.B 89 (x.xs2 ++ [(I6 (pasT y4).k),(N6 (pasT y4).n),(St (pasT y4).s),(.slice a5 (pasT y4).l.length c5),(.bool (pasT y4).o)]))) from by kernel_rfl))⟩
  · exact ⟨by show x.i + 1 ≤ _; omega,(View.le_trans hxl hV5),RwR.snoc k12 k10 hr3,RwR.snoc k11 ht5 hr14,by rw [List.map_append,hx5,take_map_succ _ hy1]; rfl,by rw [List.map_append,hx6,take_map_succ _ hy4]; rfl⟩
  · show a.t.length - (x.i + 1) < a.t.length - x.i; omega
 ·
  have h0d := of_decide_eq_false h0
  refine sx_exit (zB [0,1] [(b0,4)] (sx_O 177 #[(.agg #[(I6 a.s.s),(St a.s.l),(N6 a.s.n),(N6 a.s.v)])] (ItemIs a.s.tree 0) (fun W hM => eItem_any a.s W hM.view hA.s h5) (fun v15 V15 hV15 hP15 => ?_)))
  have k17 := (fA2.le hxl).le hV15
  have k19 := hxr.le hV15
  have k20 := hxr2.le hV15
  obtain ⟨cs15,rfl,ht15⟩ := hP15
  obtain ⟨a15,c15,rfl,hts15,hn15,hs15,hl15⟩ := ht15.form
  refine zq 3 (sx_NI 1 (fun b21 => ?_))
  refine sx_S 1 b21 ?_
  refine sx_permR [(bK b0 [(.slice aT a.t.length cT),(I6 a.c),(I6 a.s.s),(St a.s.l),(N6 a.s.n),(N6 a.s.v),(.slice aP a.p.length cP),(.slice aR a.r.length cR)] 96),(bK b21 [(I6 a.s.tree.k),(N6 a.s.tree.n),(St a.s.tree.s),(.slice a15 a.s.tree.l.length c15),(.bool a.s.tree.o)] 89)] (x.r.B 89 x.xs) (x.r2.B 89 x.xs2) (by kernel_rfl) ?_
  refine sx_fz 3 x.r x.xs 5 x.i ([(bK b0 [(.slice aT a.t.length cT),(I6 a.c),(I6 a.s.s),(St a.s.l),(N6 a.s.n),(N6 a.s.v),(.slice aP a.p.length cP),(.slice aR a.r.length cR)] 96),(bK b21 [(I6 a.s.tree.k),(N6 a.s.tree.n),(St a.s.tree.s),(.slice a15 a.s.tree.l.length c15),(.bool a.s.tree.o)] 89)] ++ x.r2.B 89 x.xs2) 89 (by kernel_rfl) hxr.ok (by kernel_rfl) (fun a22 c22 V22 hV22 hR22 hE22 => ?_)
  have k25 := k17.le hV22
  have k27 := ht15.le hV22
  have k28 := k20.le hV22
  have k29 := k19.le hV22
  have hT22 := (k29.done (by decide) hR22 (View.le_refl _) (by unfold R47; omega)).ts
  rw [hx5,List.take_of_length_le (by omega)] at hT22
  have hn22 : x.i = (a.t.map (fun n : Int => Itm.numT n.toNat)).length := by rw [List.length_map]; omega
  refine zq 1 (zn (zs ?_))
  have hTL22 := TV.list c22 hT22
  rw [← hn22] at hTL22
  refine sx_W 8 2 3 [40,41,42,43,44,45,46,47] [.val (.slice a22 x.i c22),.val (.agg #[(I6 4),(U6 0),(St []),(.slice a22 x.i c22),(.bool false)]),.val (Pt b0 1),.val (I6 a.c),.val (N6 a.c.toNat),.val (.agg #[(I6 0),(N6 a.c.toNat),(St []),S0,(.bool false)]),.val (.agg #[(I6 0),(U6 0),(St []),S0,(.bool false)]),.val (.agg #[(I6 a.s.tree.k),(N6 a.s.tree.n),(St a.s.tree.s),(.slice a15 a.s.tree.l.length c15),(.bool a.s.tree.o)])] ⟨?_,?_,?_,?_,?_,?_,?_,?_,trivial⟩ ?_
  · exact oQ 0 rfl (.slice a22 x.i c22) rfl
  · exact obC 1 178 #[(.slice a22 x.i c22)] rfl (.agg #[(I6 4),(U6 0),(St []),(.slice a22 x.i c22),(.bool false)]) rfl (by kernel_rfl) (fun W hM => iList_any _ _ _ W) (by kernel_rfl)
  · exact oQ 2 rfl (Pt b0 1) rfl
  · exact oL 3 0 b0 1 [(.slice aT a.t.length cT),(I6 a.c),(I6 a.s.s),(St a.s.l),(N6 a.s.n),(N6 a.s.v),(.slice aP a.p.length cP),(.slice aR a.r.length cR)] 96 rfl (I6 a.c) rfl
  · exact oE 4 rfl (U6 (IntKind.u64.wrap a.c)) (N6 a.c.toNat) (congrArg (Value.int .u64) hw4) rfl
  · exact obC 5 40 #[(N6 a.c.toNat)] rfl (.agg #[(I6 0),(N6 a.c.toNat),(St []),S0,(.bool false)]) rfl (by kernel_rfl) (fun W hM => iNum_any _ W) (by kernel_rfl)
  · exact obC 6 40 #[(U6 0)] rfl (.agg #[(I6 0),(U6 0),(St []),S0,(.bool false)]) rfl (by kernel_rfl) (fun W hM => iNum_any _ W) (by kernel_rfl)
  · exact oL 7 1 b21 5 [(I6 a.s.tree.k),(N6 a.s.tree.n),(St a.s.tree.s),(.slice a15 a.s.tree.l.length c15),(.bool a.s.tree.o)] 89 rfl (.agg #[(I6 a.s.tree.k),(N6 a.s.tree.n),(St a.s.tree.s),(.slice a15 a.s.tree.l.length c15),(.bool a.s.tree.o)]) rfl
  refine sx_NI 2 (fun b30 => ?_)
  refine zq 1 (zn (zs (zB [0,1,0,0] [(b0,1)] (zn (sx_D (decide ((((a.p.length : Nat)) : Int) > 0)) (fun h1 => ?_) (fun h1 => ?_))))))
  ·
   have h1d := of_decide_eq_true h1
   refine zQ 1 (sx_C 40 #[(U6 1)] (.agg #[(I6 0),(U6 1),(St []),S0,(.bool false)]) (fun W hM => iNum_any _ W) ?_)
   refine zq 1 (sx_S 2 b30 (zn (zr (sx_B [0,0,1] [(b0,1)] (sx_O 176 #[(.slice aP a.p.length cP)] (ItemOf (pasT a.p)) (fun W hM => aList_any a.p _ _ W hM.view k25 hcp (by omega)) (fun v31 V31 hV31 hP31 => ?_))))))
   have k37 := k27.le hV31
   have k38 := hTL22.le hV31
   have k39 := (TV.num _ a.c.toNat (by first | assumption | decide | (unfold W64; omega))).le hV31
   have k41 := (TV.num _ 1 (by first | assumption | decide | (unfold W64; omega))).le hV31
   have k42 := k28.le hV31
   obtain ⟨cs31,rfl,ht31⟩ := hP31
   obtain ⟨a31,c31,rfl,hts31,hn31,hs31,hl31⟩ := ht31.form
   refine sx_NI 3 (fun b43 => ?_)
   refine sx_permX [(bK b0 [(.slice aT a.t.length cT),(I6 a.c),(I6 a.s.s),(St a.s.l),(N6 a.s.n),(N6 a.s.v),(.slice aP a.p.length cP),(.slice aR a.r.length cR)] 96),(bK b21 [(I6 a.s.tree.k),(N6 a.s.tree.n),(St a.s.tree.s),(.slice a15 a.s.tree.l.length c15),(.bool a.s.tree.o)] 89)] ([(bK b43 [(I6 (pasT a.p).k),(N6 (pasT a.p).n),(St (pasT a.p).s),(.slice a31 (pasT a.p).l.length c31),(.bool (pasT a.p).o)] 89)] ++ x.r2.B 89 x.xs2) (b30,.cells [(I6 4),(U6 0),(St []),(.slice a22 x.i c22),(.bool false),(I6 0),(N6 a.c.toNat),(St []),S0,(.bool false),(I6 0),(U6 1),(St []),S0,(.bool false),(I6 a.s.tree.k),(N6 a.s.tree.n),(St a.s.tree.s),(.slice a15 a.s.tree.l.length c15),(.bool a.s.tree.o)].toArray 89 (0,0)) (by kernel_rfl) ?_
   refine sx_appE (Rw.row b30 4 []) [(I6 4),(U6 0),(St []),(.slice a22 x.i c22),(.bool false),(I6 0),(N6 a.c.toNat),(St []),S0,(.bool false),(I6 0),(U6 1),(St []),S0,(.bool false),(I6 a.s.tree.k),(N6 a.s.tree.n),(St a.s.tree.s),(.slice a15 a.s.tree.l.length c15),(.bool a.s.tree.o)] 4 ([(bK b0 [(.slice aT a.t.length cT),(I6 a.c),(I6 a.s.s),(St a.s.l),(N6 a.s.n),(N6 a.s.v),(.slice aP a.p.length cP),(.slice aR a.r.length cR)] 96),(bK b21 [(I6 a.s.tree.k),(N6 a.s.tree.n),(St a.s.tree.s),(.slice a15 a.s.tree.l.length c15),(.bool a.s.tree.o)] 89),(bK b43 [(I6 (pasT a.p).k),(N6 (pasT a.p).n),(St (pasT a.p).s),(.slice a31 (pasT a.p).l.length c31),(.bool (pasT a.p).o)] 89)] ++ x.r2.B 89 x.xs2) 89 87 5 64 1 (by kernel_rfl) ⟨rfl,rfl,Nat.le_refl _,by decide⟩ (.tmp 56) (.tmp 60) rfl (by kernel_rfl) b43 0 1 [(I6 (pasT a.p).k),(N6 (pasT a.p).n),(St (pasT a.p).s),(.slice a31 (pasT a.p).l.length c31),(.bool (pasT a.p).o)] (by kernel_rfl) (fun W hM => rangeAt_own hM 2 b43 [(I6 (pasT a.p).k),(N6 (pasT a.p).n),(St (pasT a.p).s),(.slice a31 (pasT a.p).l.length c31),(.bool (pasT a.p).o)] 89 (by kernel_rfl)) rfl (List.all_eq_true.1 (by kernel_rfl)) (by decide) (by unfold maxLen; omega) (by omega) (by kernel_rfl) (by kernel_rfl) (by kernel_rfl) (by kernel_rfl) (by kernel_rfl) (fun r44 hr44 => ?_)
   refine zq 1 (zn (zQ 2 ?_))
   refine sx_permR [(bK b0 [(.slice aT a.t.length cT),(I6 a.c),(I6 a.s.s),(St a.s.l),(N6 a.s.n),(N6 a.s.v),(.slice aP a.p.length cP),(.slice aR a.r.length cR)] 96),(bK b21 [(I6 a.s.tree.k),(N6 a.s.tree.n),(St a.s.tree.s),(.slice a15 a.s.tree.l.length c15),(.bool a.s.tree.o)] 89),(bK b43 [(I6 (pasT a.p).k),(N6 (pasT a.p).n),(St (pasT a.p).s),(.slice a31 (pasT a.p).l.length c31),(.bool (pasT a.p).o)] 89)] (x.r2.B 89 x.xs2) (r44.B 89 ([(I6 4),(U6 0),(St []),(.slice a22 x.i c22),(.bool false),(I6 0),(N6 a.c.toNat),(St []),S0,(.bool false),(I6 0),(U6 1),(St []),S0,(.bool false),(I6 a.s.tree.k),(N6 a.s.tree.n),(St a.s.tree.s),(.slice a15 a.s.tree.l.length c15),(.bool a.s.tree.o)] ++ [(I6 (pasT a.p).k),(N6 (pasT a.p).n),(St (pasT a.p).s),(.slice a31 (pasT a.p).l.length c31),(.bool (pasT a.p).o)])) (by kernel_rfl) ?_
   refine sx_fz 63 x.r2 x.xs2 5 x.i ([(bK b0 [(.slice aT a.t.length cT),(I6 a.c),(I6 a.s.s),(St a.s.l),(N6 a.s.n),(N6 a.s.v),(.slice aP a.p.length cP),(.slice aR a.r.length cR)] 96),(bK b21 [(I6 a.s.tree.k),(N6 a.s.tree.n),(St a.s.tree.s),(.slice a15 a.s.tree.l.length c15),(.bool a.s.tree.o)] 89),(bK b43 [(I6 (pasT a.p).k),(N6 (pasT a.p).n),(St (pasT a.p).s),(.slice a31 (pasT a.p).l.length c31),(.bool (pasT a.p).o)] 89)] ++ r44.B 89 ([(I6 4),(U6 0),(St []),(.slice a22 x.i c22),(.bool false),(I6 0),(N6 a.c.toNat),(St []),S0,(.bool false),(I6 0),(U6 1),(St []),S0,(.bool false),(I6 a.s.tree.k),(N6 a.s.tree.n),(St a.s.tree.s),(.slice a15 a.s.tree.l.length c15),(.bool a.s.tree.o)] ++ [(I6 (pasT a.p).k),(N6 (pasT a.p).n),(St (pasT a.p).s),(.slice a31 (pasT a.p).l.length c31),(.bool (pasT a.p).o)])) 89 (by kernel_rfl) hxr2.ok (by kernel_rfl) (fun a45 c45 V45 hV45 hR45 hE45 => ?_)
   have k51 := k37.le hV45
   have k52 := k38.le hV45
   have k53 := k39.le hV45
   have k55 := k41.le hV45
   have k56 := ht31.le hV45
   have k57 := k42.le hV45
   have hT45 := (k57.done (by decide) hR45 (View.le_refl _) (by unfold R47; omega)).ts
   rw [hx6,List.take_of_length_le (by omega)] at hT45
   have hn45 : x.i = (a.r.map pasT).length := by rw [List.length_map]; omega
   have hTL45 := TV.list c45 hT45
   rw [← hn45] at hTL45
   refine sx_C 178 #[(.slice a45 x.i c45)] (.agg #[(I6 4),(U6 0),(St []),(.slice a45 x.i c45),(.bool false)]) (fun W hM => iList_any _ _ _ W) ?_
   refine sx_NI 3 (fun b58 => ?_)
   refine sx_appE r44 ([(I6 4),(U6 0),(St []),(.slice a22 x.i c22),(.bool false),(I6 0),(N6 a.c.toNat),(St []),S0,(.bool false),(I6 0),(U6 1),(St []),S0,(.bool false),(I6 a.s.tree.k),(N6 a.s.tree.n),(St a.s.tree.s),(.slice a15 a.s.tree.l.length c15),(.bool a.s.tree.o)] ++ [(I6 (pasT a.p).k),(N6 (pasT a.p).n),(St (pasT a.p).s),(.slice a31 (pasT a.p).l.length c31),(.bool (pasT a.p).o)]) (4 + 1) [(bK b0 [(.slice aT a.t.length cT),(I6 a.c),(I6 a.s.s),(St a.s.l),(N6 a.s.n),(N6 a.s.v),(.slice aP a.p.length cP),(.slice aR a.r.length cR)] 96),(bK b21 [(I6 a.s.tree.k),(N6 a.s.tree.n),(St a.s.tree.s),(.slice a15 a.s.tree.l.length c15),(.bool a.s.tree.o)] 89),(bK b43 [(I6 (pasT a.p).k),(N6 (pasT a.p).n),(St (pasT a.p).s),(.slice a31 (pasT a.p).l.length c31),(.bool (pasT a.p).o)] 89),(b58,.cells [(I6 4),(U6 0),(St []),(.slice a45 x.i c45),(.bool false)].toArray 89 (0,0))] 89 87 5 64 1 (by kernel_rfl) hr44 (.tmp 62) (.tmp 65) rfl (by kernel_rfl) b58 0 1 [(I6 4),(U6 0),(St []),(.slice a45 x.i c45),(.bool false)] (by kernel_rfl) (fun W hM => rangeAt_own hM 3 b58 [(I6 4),(U6 0),(St []),(.slice a45 x.i c45),(.bool false)] 89 (by kernel_rfl)) rfl (List.all_eq_true.1 (by kernel_rfl)) (by decide) (by unfold maxLen; omega) (by omega) (by kernel_rfl) (by kernel_rfl) (by kernel_rfl) (by kernel_rfl) (by kernel_rfl) (fun r59 hr59 => ?_)
   refine zq 1 (zn (sx_ret (sx_Z [2] [(r59.V ((4 + 1) + 1))] (fun W' hM => ?_))))
   have hit : a.items = [(Itm.arrT (a.t.map (fun n : Int => Itm.numT n.toNat))),(Itm.numT a.c.toNat),(Itm.numT 1),a.s.tree,(pasT a.p),(Itm.arrT (a.r.map pasT))] := by unfold As.items; rw [if_neg (by omega)]; rfl
   rw [hit]
   exact retN_row (hM.eqv (show _ = ([(bK b0 [(.slice aT a.t.length cT),(I6 a.c),(I6 a.s.s),(St a.s.l),(N6 a.s.n),(N6 a.s.v),(.slice aP a.p.length cP),(.slice aR a.r.length cR)] 96),(bK b21 [(I6 a.s.tree.k),(N6 a.s.tree.n),(St a.s.tree.s),(.slice a15 a.s.tree.l.length c15),(.bool a.s.tree.o)] 89),(bK b43 [(I6 (pasT a.p).k),(N6 (pasT a.p).n),(St (pasT a.p).s),(.slice a31 (pasT a.p).l.length c31),(.bool (pasT a.p).o)] 89),(b58,.cells [(I6 4),(U6 0),(St []),(.slice a45 x.i c45),(.bool false)].toArray 89 (0,0))] : Blks) ++ r59.B 89 (([(I6 4),(U6 0),(St []),(.slice a22 x.i c22),(.bool false),(I6 0),(N6 a.c.toNat),(St []),S0,(.bool false),(I6 0),(U6 1),(St []),S0,(.bool false),(I6 a.s.tree.k),(N6 a.s.tree.n),(St a.s.tree.s),(.slice a15 a.s.tree.l.length c15),(.bool a.s.tree.o)] ++ [(I6 (pasT a.p).k),(N6 (pasT a.p).n),(St (pasT a.p).s),(.slice a31 (pasT a.p).l.length c31),(.bool (pasT a.p).o)]) ++ [(I6 4),(U6 0),(St []),(.slice a45 x.i c45),(.bool false)]) from by kernel_rfl)) hr59 (View.le_trans (View.le_trans (View.le_trans (View.le_trans hxl hV15) hV22) hV31) hV45) [((Itm.arrT (a.t.map (fun n : Int => Itm.numT n.toNat))),[(I6 4),(U6 0),(St []),(.slice a22 x.i c22),(.bool false)]),((Itm.numT a.c.toNat),[(I6 0),(N6 a.c.toNat),(St []),S0,(.bool false)]),((Itm.numT 1),[(I6 0),(U6 1),(St []),S0,(.bool false)]),(a.s.tree,[(I6 a.s.tree.k),(N6 a.s.tree.n),(St a.s.tree.s),(.slice a15 a.s.tree.l.length c15),(.bool a.s.tree.o)]),((pasT a.p),[(I6 (pasT a.p).k),(N6 (pasT a.p).n),(St (pasT a.p).s),(.slice a31 (pasT a.p).l.length c31),(.bool (pasT a.p).o)]),((Itm.arrT (a.r.map pasT)),[(I6 4),(U6 0),(St []),(.slice a45 x.i c45),(.bool false)])] (by kernel_rfl) ⟨k52,k53,k55,k51,k56,hTL45,trivial⟩ _ rfl rfl (by unfold R47; decide)
  ·
   have h1d := of_decide_eq_false h1
   refine zk (zQ 2 ?_)
   refine sx_fz 63 x.r2 x.xs2 5 x.i [(bK b0 [(.slice aT a.t.length cT),(I6 a.c),(I6 a.s.s),(St a.s.l),(N6 a.s.n),(N6 a.s.v),(.slice aP a.p.length cP),(.slice aR a.r.length cR)] 96),(bK b21 [(I6 a.s.tree.k),(N6 a.s.tree.n),(St a.s.tree.s),(.slice a15 a.s.tree.l.length c15),(.bool a.s.tree.o)] 89),(b30,.cells [(I6 4),(U6 0),(St []),(.slice a22 x.i c22),(.bool false),(I6 0),(N6 a.c.toNat),(St []),S0,(.bool false),(I6 0),(U6 0),(St []),S0,(.bool false),(I6 a.s.tree.k),(N6 a.s.tree.n),(St a.s.tree.s),(.slice a15 a.s.tree.l.length c15),(.bool a.s.tree.o)].toArray 89 (0,0))] 89 (by kernel_rfl) hxr2.ok (by kernel_rfl) (fun a60 c60 V60 hV60 hR60 hE60 => ?_)
   have k66 := k27.le hV60
   have k67 := hTL22.le hV60
   have k68 := (TV.num _ a.c.toNat (by first | assumption | decide | (unfold W64; omega))).le hV60
   have k69 := (TV.num _ 0 (by first | assumption | decide | (unfold W64; omega))).le hV60
   have k70 := k28.le hV60
   have hT60 := (k70.done (by decide) hR60 (View.le_refl _) (by unfold R47; omega)).ts
   rw [hx6,List.take_of_length_le (by omega)] at hT60
   have hn60 : x.i = (a.r.map pasT).length := by rw [List.length_map]; omega
   have hTL60 := TV.list c60 hT60
   rw [← hn60] at hTL60
   refine sx_C 178 #[(.slice a60 x.i c60)] (.agg #[(I6 4),(U6 0),(St []),(.slice a60 x.i c60),(.bool false)]) (fun W hM => iList_any _ _ _ W) ?_
   refine sx_N (fun b71 => ?_)
   refine sx_permX [(bK b0 [(.slice aT a.t.length cT),(I6 a.c),(I6 a.s.s),(St a.s.l),(N6 a.s.n),(N6 a.s.v),(.slice aP a.p.length cP),(.slice aR a.r.length cR)] 96),(bK b21 [(I6 a.s.tree.k),(N6 a.s.tree.n),(St a.s.tree.s),(.slice a15 a.s.tree.l.length c15),(.bool a.s.tree.o)] 89)] ([(b71,.cells [(I6 4),(U6 0),(St []),(.slice a60 x.i c60),(.bool false)].toArray 89 (0,0))]) (b30,.cells [(I6 4),(U6 0),(St []),(.slice a22 x.i c22),(.bool false),(I6 0),(N6 a.c.toNat),(St []),S0,(.bool false),(I6 0),(U6 0),(St []),S0,(.bool false),(I6 a.s.tree.k),(N6 a.s.tree.n),(St a.s.tree.s),(.slice a15 a.s.tree.l.length c15),(.bool a.s.tree.o)].toArray 89 (0,0)) (by kernel_rfl) ?_
   refine sx_appE (Rw.row b30 4 []) [(I6 4),(U6 0),(St []),(.slice a22 x.i c22),(.bool false),(I6 0),(N6 a.c.toNat),(St []),S0,(.bool false),(I6 0),(U6 0),(St []),S0,(.bool false),(I6 a.s.tree.k),(N6 a.s.tree.n),(St a.s.tree.s),(.slice a15 a.s.tree.l.length c15),(.bool a.s.tree.o)] 4 [(bK b0 [(.slice aT a.t.length cT),(I6 a.c),(I6 a.s.s),(St a.s.l),(N6 a.s.n),(N6 a.s.v),(.slice aP a.p.length cP),(.slice aR a.r.length cR)] 96),(bK b21 [(I6 a.s.tree.k),(N6 a.s.tree.n),(St a.s.tree.s),(.slice a15 a.s.tree.l.length c15),(.bool a.s.tree.o)] 89),(b71,.cells [(I6 4),(U6 0),(St []),(.slice a60 x.i c60),(.bool false)].toArray 89 (0,0))] 89 87 5 64 1 (by kernel_rfl) ⟨rfl,rfl,Nat.le_refl _,by decide⟩ (.tmp 62) (.tmp 65) rfl (by kernel_rfl) b71 0 1 [(I6 4),(U6 0),(St []),(.slice a60 x.i c60),(.bool false)] (by kernel_rfl) (fun W hM => rangeAt_own hM 2 b71 [(I6 4),(U6 0),(St []),(.slice a60 x.i c60),(.bool false)] 89 (by kernel_rfl)) rfl (List.all_eq_true.1 (by kernel_rfl)) (by decide) (by unfold maxLen; omega) (by omega) (by kernel_rfl) (by kernel_rfl) (by kernel_rfl) (by kernel_rfl) (by kernel_rfl) (fun r72 hr72 => ?_)
   refine zq 1 (zn (sx_ret (sx_Z [2] [(r72.V (4 + 1))] (fun W' hM => ?_))))
   have hit : a.items = [(Itm.arrT (a.t.map (fun n : Int => Itm.numT n.toNat))),(Itm.numT a.c.toNat),(Itm.numT 0),a.s.tree,(Itm.arrT (a.r.map pasT))] := by unfold As.items; rw [if_pos (by omega)]; rfl
   rw [hit]
   exact retN_row (hM.eqv (show _ = ([(bK b0 [(.slice aT a.t.length cT),(I6 a.c),(I6 a.s.s),(St a.s.l),(N6 a.s.n),(N6 a.s.v),(.slice aP a.p.length cP),(.slice aR a.r.length cR)] 96),(bK b21 [(I6 a.s.tree.k),(N6 a.s.tree.n),(St a.s.tree.s),(.slice a15 a.s.tree.l.length c15),(.bool a.s.tree.o)] 89),(b71,.cells [(I6 4),(U6 0),(St []),(.slice a60 x.i c60),(.bool false)].toArray 89 (0,0))] : Blks) ++ r72.B 89 ([(I6 4),(U6 0),(St []),(.slice a22 x.i c22),(.bool false),(I6 0),(N6 a.c.toNat),(St []),S0,(.bool false),(I6 0),(U6 0),(St []),S0,(.bool false),(I6 a.s.tree.k),(N6 a.s.tree.n),(St a.s.tree.s),(.slice a15 a.s.tree.l.length c15),(.bool a.s.tree.o)] ++ [(I6 4),(U6 0),(St []),(.slice a60 x.i c60),(.bool false)]) from by kernel_rfl)) hr72 (View.le_trans (View.le_trans (View.le_trans hxl hV15) hV22) hV60) [((Itm.arrT (a.t.map (fun n : Int => Itm.numT n.toNat))),[(I6 4),(U6 0),(St []),(.slice a22 x.i c22),(.bool false)]),((Itm.numT a.c.toNat),[(I6 0),(N6 a.c.toNat),(St []),S0,(.bool false)]),((Itm.numT 0),[(I6 0),(U6 0),(St []),S0,(.bool false)]),(a.s.tree,[(I6 a.s.tree.k),(N6 a.s.tree.n),(St a.s.tree.s),(.slice a15 a.s.tree.l.length c15),(.bool a.s.tree.o)]),((Itm.arrT (a.r.map pasT)),[(I6 4),(U6 0),(St []),(.slice a60 x.i c60),(.bool false)])] (by kernel_rfl) ⟨k67,k68,k69,k66,hTL60,trivial⟩ _ rfl rfl (by unfold R47; decide)
structure As.small (a : As) : Prop where
 s : a.s.l.length ≤ R47
 p : ∀ x ∈ a.p, x.v.s.length ≤ R47
 r : ∀ l ∈ a.r, ∀ x ∈ l, x.v.s.length ≤ R47
theorem AsAt.small {U : View} {a1 a2 a3 : Option Addr} {a : As} (h : AsAt U a1 a2 a3 a) : a.small :=
 ⟨h.s.l, fun x hx => by
  obtain ⟨cs, ct, _, ht⟩ := h.p.all hx
  obtain ⟨_, _, _, _, _, hs, _⟩ := ht.form
  exact hs, fun l hl x hx => by
  obtain ⟨cs, a, c, _, hp⟩ := h.r.all hl
  obtain ⟨cs, ct, _, ht⟩ := hp.all hx
  obtain ⟨_, _, _, _, _, hs, _⟩ := ht.form
  exact hs⟩
theorem szL_le {B : Nat} : ∀ (l : List Itm.Tr), (∀ x ∈ l, Itm.szT x ≤ B) → Itm.szL l ≤ l.length * B
 | [], _ => by simp [Itm.szL]
 | x :: l, h => by
  have h1 := h x List.mem_cons_self
  have h2 := szL_le l fun y hy => h y (List.mem_cons_of_mem _ hy)
  rw [Itm.szL, List.length_cons, Nat.add_mul]
  omega
theorem szT_arr {B n : Nat} {l : List Itm.Tr} (hl : l.length ≤ n) (h : ∀ x ∈ l, Itm.szT x ≤ B) : Itm.szT (Itm.arrT l) ≤ 1 + n * B := by
 have h1 := szL_le l h
 have h2 : l.length * B ≤ n * B := Nat.mul_le_mul_right B hl
 show Itm.szT (.mk 4 0 [] l false) ≤ _
 rw [Itm.szT]
 simp only [List.length_nil]
 omega
theorem szT_num (n : Nat) : Itm.szT (Itm.numT n) ≤ 1 := by
 show Itm.szT (.mk 0 n [] [] false) ≤ 1
 rw [Itm.szT, Itm.szL]
 simp
theorem szT_leaf {v : Itm.Tr} (hk : (v.k == 0 || v.k == 2) = true) (h : Itm.rightT 8 v = true) (hs : v.s.length ≤ R47) : Itm.szT v ≤ 1 + R47 := by
 rw [Itm.rightT, Bool.and_eq_true] at h
 have hl : v.l.length = 0 := by
  rcases Itm.okN_true h.1 with ⟨_, _, h, _⟩ | ⟨_, _, h, _⟩ | ⟨_, _, h, _⟩ | ⟨h, _⟩
  · exact h
  · exact h
  · exact h
  · rw [h] at hk; cases hk
 obtain ⟨k, n, s, l, o⟩ := v
 obtain rfl := List.length_eq_zero_iff.1 (show l.length = 0 from hl)
 have hs' : s.length ≤ R47 := hs
 rw [Itm.szT, Itm.szL]
 omega
theorem szT_pas {l : List Pa} {n : Nat} (hl : l.length ≤ n) (h : pairsB l = true) (hs : ∀ x ∈ l, x.v.s.length ≤ R47) : Itm.szT (pasT l) ≤ 1 + n * (1 + 2 * (1 + R47)) := by
 unfold pairsB at h
 rw [Bool.and_eq_true] at h
 refine szT_arr (by rw [List.length_map]; exact hl) fun x hx => ?_
 obtain ⟨p, hp, rfl⟩ := List.mem_map.1 hx
 refine szT_arr (n := 2) (by simp) fun y hy => ?_
 have hpa := List.all_eq_true.1 h.1 p hp
 unfold paB at hpa
 rw [Bool.and_eq_true] at hpa
 simp only [List.mem_cons, List.mem_nil_iff, or_false] at hy
 rcases hy with rfl | rfl
 · exact Nat.le_trans (szT_num _) (Nat.le_add_right _ _)
 · exact szT_leaf hpa.1 hpa.2 (hs p hp)
theorem szT_ei {e : Ei} (h : e.l.length ≤ R47) : Itm.szT e.tree ≤ 10 + R47 := by
 unfold R47 at *
 unfold Ei.tree
 split
 · simp [Itm.arrT, Itm.numT, Itm.szT, Itm.szL]
 ·
  split
  · simp [Itm.arrT, Itm.numT, Itm.szT, Itm.szL]
  · simp [Itm.arrT, Itm.numT, txtT, Itm.szT, Itm.szL]; omega
theorem items_sz {a : As} (hs : a.small) (h : shapedB a = true) : ∀ x ∈ a.items, Itm.szT x ≤ sz50 := by
 unfold shapedB at h
 simp only [Bool.and_eq_true, decide_eq_true_eq] at h
 obtain ⟨⟨⟨⟨⟨⟨⟨⟨h1, h2⟩, h3⟩, h4⟩, h5⟩, h6⟩, h7⟩, h8⟩, h9⟩ := h
 have q1 : Itm.szT (tgtT a.t) ≤ 1 + 16 * 1 := szT_arr (by rw [List.length_map]; exact h2) fun x hx => by
  obtain ⟨n, _, rfl⟩ := List.mem_map.1 hx
  exact szT_num _
 have q2 := szT_pas h6 h7 hs.p
 have q3 : Itm.szT (Itm.arrT (a.r.map pasT)) ≤ 1 + 16 * (1 + 4 * (1 + 2 * (1 + R47))) := szT_arr (by rw [List.length_map]; omega) fun x hx => by
  obtain ⟨l, hl, rfl⟩ := List.mem_map.1 hx
  have := List.all_eq_true.1 h9 l hl
  unfold resB at this
  simp only [Bool.and_eq_true, decide_eq_true_eq] at this
  exact szT_pas this.1.2 this.2 (hs.r l hl)
 have q4 := szT_ei hs.s
 have q5 := szT_num
 intro x hx
 unfold sz50
 unfold R47 at *
 unfold As.items at hx
 split at hx
 ·
  simp only [List.mem_cons, List.mem_nil_iff, or_false] at hx
  rcases hx with rfl | rfl | rfl | rfl | rfl
  · omega
  · have := q5 a.c.toNat; omega
  · have := q5 0; omega
  · omega
  · omega
 ·
  simp only [List.mem_cons, List.mem_nil_iff, or_false] at hx
  rcases hx with rfl | rfl | rfl | rfl | rfl | rfl
  · omega
  · have := q5 a.c.toNat; omega
  · have := q5 1; omega
  · omega
  · omega
  · omega
theorem items_len (a : As) : a.items.length ≤ 6 := by
 unfold As.items
 split <;> simp
theorem bytesL_succ {l : List Itm.Tr} {i : Nat} {y : Itm.Tr} (h : l[i]? = some y) : Itm.bytesL (l.take (i + 1)) = Itm.bytesL (l.take i) ++ Itm.bytesB y := Itm.bytesL_take h
theorem aBld_any (a : As) (aT aP aR : Option Addr) (cT cP cR : Nat) (w : World) {U : View} (hU : ∀ a v, U a = some v → w.cell? a = some v) (hA : AsAt U aT aP aR a) (hs : shapedB a = true) : Calls Tryz.prog 90 #[asV a aT aP aR cT cP cR] w (Ret (.string (B a.bytes)) w) := by
 have fA1 := hA.t
 have fA2 := hA.p
 have fA3 := hA.r
 have hsz := items_sz hA.small hs
 have hrt := items_right hs (d := 4)
 have hil := items_len a
 refine sx_enter (f := 90) 25 U Tryz.func90 rfl rfl rfl hU ?_
 refine zs (zr (sx_N (fun b0 => (zq 1 (zn (zQ 1 (zn (zs (zB [1] [(b0,8)] (sx_O 135 #[(.agg #[(.slice aT a.t.length cT),(I6 a.c),(I6 a.s.s),(St a.s.l),(N6 a.s.n),(N6 a.s.v),(.slice aP a.p.length cP),(.slice aR a.r.length cR)])] (TsOf a.items) (fun W hM => aItems_any a _ _ _ _ _ _ W hM.view hA hs) (fun v1 V1 hV1 hP1 => ?_)))))))))))
 obtain ⟨a1,c1,rfl,hts1⟩ := hP1
 refine zq 2 (zn (sx_block ?_))
 refine sx_loop (α := Nat × List UInt8) (fun x => [2,3,9,10,11].zip [(St []),(St x.2),(.slice a1 a.items.length c1),(L6 a.items.length),(L6 x.1)]) (fun x => V1) (fun x => [(bK b0 [(.slice aT a.t.length cT),(I6 a.c),(I6 a.s.s),(St a.s.l),(N6 a.s.n),(N6 a.s.v),(.slice aP a.p.length cP),(.slice aR a.r.length cR)] 96)]) (fun x => x.1 ≤ a.items.length ∧ x.2 = Itm.bytesL (a.items.take x.1) ∧ x.2.length ≤ 800000000000000000 * x.1) (fun x => a.items.length - x.1) (0,[]) ?_ (look_zip _ _ (by kernel_rfl)) (fun _ h => h.eqv (by kernel_rfl)) ?_
 · exact ⟨Nat.zero_le _,rfl,Nat.zero_le _⟩
 intro x hx
 obtain ⟨hx1,hx2,hx3⟩ := hx
 refine zQ 1 (zn (zs (sx_D (decide (((x.1 : Nat) : Int) < (((a.items.length : Nat)) : Int))) (fun h0 => ?_) (fun h0 => ?_))))
 ·
  have h0d := of_decide_eq_true h0
  refine zk (zs (sx_block (zs (zr ?_))))
  obtain ⟨y5,hy5⟩ : ∃ y,(a.items)[x.1]? = some y := ⟨(a.items)[x.1]'(by omega),List.getElem?_eq_getElem _⟩
  obtain ⟨b5,f5,cs5,rfl,hU5,ht5⟩ := hts1.at_ x.1 y5 hy5
  obtain ⟨a5,c5,rfl,hts5,hn5,hs5,hl5⟩ := ht5.form
  have hszy5 := hsz y5 (List.mem_of_getElem? hy5)
  have hry5 := hrt y5 (List.mem_of_getElem? hy5)
  have hbly5 := Itm.bytesB_len y5
  have hsyy5 := hszy5
  unfold sz50 at hsyy5
  refine sx_R (Pt b5 (f5 + x.1 * 5)) (rIx 89 rfl b5 f5 a.items.length c1 x.1 5) ?_
  refine zU b5 (f5 + x.1 * 5) [(I6 y5.k),(N6 y5.n),(St y5.s),(.slice a5 y5.l.length c5),(.bool y5.o)] hU5 89 (.tmp 13) _ Tryz.underlying89 rfl ?_
  refine sx_N (fun b6 => (sx_S 1 b6 (zn (zB [2] [(b6,5)] (sx_C 136 #[(.agg #[(I6 y5.k),(N6 y5.n),(St y5.s),(.slice a5 y5.l.length c5),(.bool y5.o)])] (.tuple #[(St (Itm.bytesB y5)),(I6 0)]) (fun W hM => iBuild_any y5 _ hM.view ht5 hry5 hszy5) ?_)))))
  refine zq 5 (zn (zr (zq 2 (sx_R (St (x.2 ++ (Itm.bytesB y5))) (run_cat _ _ _ _ rfl x.2 (Itm.bytesB y5) (by kernel_rfl) (by kernel_rfl) (by first | omega | (simp only [List.length_append,List.length_cons,List.length_nil]; omega))) ?_))))
  refine zq 1 (zn (zr (zq 1 (sx_E 23 (I6 (IntKind.i64.wrap (((x.1 : Nat) : Int) + 1))) (I6 (((x.1 : Nat) : Int) + 1)) i6v ?_))))
  refine zq 1 (zn ?_)
  refine ⟨(x.1 + 1,x.2 ++ Itm.bytesB y5),?_,?_,look_zip _ _ (by kernel_rfl),fun _ h => Mem.sub (List.sublist_append_left _ _) (h.eqv (show _ = ([(bK b0 [(.slice aT a.t.length cT),(I6 a.c),(I6 a.s.s),(St a.s.l),(N6 a.s.n),(N6 a.s.v),(.slice aP a.p.length cP),(.slice aR a.r.length cR)] 96)] : Blks) ++ ([(bK b6 [(I6 y5.k),(N6 y5.n),(St y5.s),(.slice a5 y5.l.length c5),(.bool y5.o)] 89)] : Blks) from by kernel_rfl))⟩
  · exact ⟨by show x.1 + 1 ≤ _; omega,by show x.2 ++ Itm.bytesB y5 = _; rw [hx2,bytesL_succ hy5],by show (x.2 ++ Itm.bytesB y5).length ≤ _; rw [List.length_append]; omega⟩
  · show a.items.length - (x.1 + 1) < a.items.length - x.1; omega
 ·
  have h0d := of_decide_eq_false h0
  refine sx_exit (zQ 2 (zn (sx_ret (sx_Z [2] [(St x.2)] (fun W' hM => ?_)))))
  refine ⟨?_,hM.below⟩
  unfold As.bytes
  rw [hx2,List.take_of_length_le (by omega)]
  rfl
theorem aRight_any (a : As) (aT aP aR : Option Addr) (cT cP cR : Nat) (w : World) {U : View} (hU : ∀ a v, U a = some v → w.cell? a = some v) (hA : AsAt U aT aP aR a) (hc : a.t.length ≤ cT) : Calls Tryz.prog 89 #[asV a aT aP aR cT cP cR] w (Ret (.bool a.right) w) := by
 have fA1 := hA.t
 have fA2 := hA.p
 have fA3 := hA.r
 have e1 : decide (a.bytes.length ≤ 4000) = decide (((a.bytes.length : Nat) : Int) ≤ 4000) := decide_eq_decide.2 (by omega)
 refine sx_enter (f := 89) 11 U Tryz.func89 rfl rfl rfl hU ?_
 refine zs (zr (sx_N (fun b0 => (zq 1 (zn (zB [1] [(b0,8)] (sx_C 134 #[(.agg #[(.slice aT a.t.length cT),(I6 a.c),(I6 a.s.s),(St a.s.l),(N6 a.s.n),(N6 a.s.v),(.slice aP a.p.length cP),(.slice aR a.r.length cR)])] (.bool (shapedB a)) (fun W hM => shaped_any a _ _ _ _ _ _ W hM.view hA hc) ?_)))))))
 refine zq 1 (sx_BL 5 (shapedB a) (fun h0 => ?_) (fun h0 => ?_))
 ·
  refine sx_B [1] [(b0,8)] (sx_C 90 #[(.agg #[(.slice aT a.t.length cT),(I6 a.c),(I6 a.s.s),(St a.s.l),(N6 a.s.n),(N6 a.s.v),(.slice aP a.p.length cP),(.slice aR a.r.length cR)])] (St a.bytes) (fun W hM => aBld_any a _ _ _ _ _ _ W hM.view hA h0) ?_)
  refine zq 4 (zn (sx_ret (sx_Z [2] [(.bool (decide ((((a.bytes).length : Nat) : Int) ≤ 4000)))] (fun W' hM => ?_))))
  refine ⟨?_,hM.below⟩
  unfold As.right
  rw [e1]
  simp only [resV,h0,bs,if_true,if_false,cond_true,cond_false,reduceIte]
 ·
  refine zq 6 (zn (sx_ret (sx_Z [2] [(.bool false)] (fun W' hM => ?_))))
  refine ⟨?_,hM.below⟩
  unfold As.right
  rw [e1]
  simp only [resV,h0,bs,if_true,if_false,cond_true,cond_false,reduceIte]
def As.outB (a : As) : List UInt8 := if a.right then a.bytes else []
def As.outZ (a : As) : Int := if a.right then 0 else 1
theorem As.shaped {a : As} (h : a.right = true) : shapedB a = true := by
 unfold As.right at h
 rw [Bool.and_eq_true] at h
 exact h.1
theorem aBuild_any (a : As) (aT aP aR : Option Addr) (cT cP cR : Nat) (w : World) {U : View} (hU : ∀ a v, U a = some v → w.cell? a = some v) (hA : AsAt U aT aP aR a) (hc : a.t.length ≤ cT) : Calls Tryz.prog 43 #[asV a aT aP aR cT cP cR] w (Ret (.tuple #[.string (B a.outB), .int .i64 a.outZ]) w) := by
 have fA1 := hA.t
 have fA2 := hA.p
 have fA3 := hA.r
 refine sx_enter (f := 43) 9 U Tryz.func43 rfl rfl rfl hU ?_
 refine zs (zr (sx_N (fun b0 => (zq 2 (zn (zs (zB [1] [(b0,8)] (sx_C 89 #[(.agg #[(.slice aT a.t.length cT),(I6 a.c),(I6 a.s.s),(St a.s.l),(N6 a.s.n),(N6 a.s.v),(.slice aP a.p.length cP),(.slice aR a.r.length cR)])] (.bool a.right) (fun W hM => aRight_any a _ _ _ _ _ _ W hM.view hA hc) ?_))))))))
 refine zq 1 (zn (sx_D (!a.right) (fun h0 => ?_) (fun h0 => ?_)))
 ·
  refine zQ 2 (zn (sx_ret (sx_Z [2,3] [(St []),(I6 1)] (fun W' hM => ?_))))
  simp only [Bool.not_eq_true',Bool.not_eq_false'] at h0
  refine ⟨?_,hM.below⟩
  unfold As.outB As.outZ
  simp only [resV,h0,bs,if_true,if_false,cond_true,cond_false,reduceIte]
 ·
  refine zk (zB [1] [(b0,8)] (sx_C 90 #[(.agg #[(.slice aT a.t.length cT),(I6 a.c),(I6 a.s.s),(St a.s.l),(N6 a.s.n),(N6 a.s.v),(.slice aP a.p.length cP),(.slice aR a.r.length cR)])] (St a.bytes) (fun W hM => aBld_any a _ _ _ _ _ _ W hM.view hA (As.shaped (by simpa using h0))) ?_))
  refine zq 2 (zn (sx_ret (sx_Z [2,3] [(St a.bytes),(I6 0)] (fun W' hM => ?_))))
  simp only [Bool.not_eq_true',Bool.not_eq_false'] at h0
  refine ⟨?_,hM.below⟩
  unfold As.outB As.outZ
  simp only [resV,h0,bs,if_true,if_false,cond_true,cond_false,reduceIte]
end Go.Proofs.YtcdjakemdlinhaaGreatDoor.Sx
