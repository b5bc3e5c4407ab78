/-
  The bytes of plain items tell them apart.
  Conditions: numbers and lengths below 2^64.
-/
import Derived.Test.YthoickghfjgmmaaItm12
namespace Go.Proofs.Ythoickghfjgmmaa.Itm
open Go.ChangeShapes Go.WideShapes Go.ChangeAt Go.RowKit Go.Deep
theorem ofNat_inj {a b : Nat} (ha : a < 256) (hb : b < 256) (h : UInt8.ofNat a = UInt8.ofNat b) : a = b := by
  have := congrArg UInt8.toNat h
  simp at this
  omega
theorem ofNat_mod {a b : Nat} (h : UInt8.ofNat a = UInt8.ofNat b) : a % 256 = b % 256 := by
  have := congrArg UInt8.toNat h
  simpa using this
theorem dg_inj {n n' : Nat} : ∀ k, dg n k = dg n' k → n % 256 ^ k = n' % 256 ^ k
  | 0, _ => by simp [Nat.mod_one]
  | k + 1, h => by
    rw [dg, dg, List.cons.injEq] at h
    rw [Nat.mod_pow_succ, Nat.mod_pow_succ, dg_inj k h.2, ofNat_mod h.1]
def codeN (n : Nat) : Nat := if n < 24 then n else if n < 256 then 24 else if n < 65536 then 25 else if n < 4294967296 then 26 else 27
def lenN (n : Nat) : Nat := if n < 24 then 0 else if n < 256 then 1 else if n < 65536 then 2 else if n < 4294967296 then 4 else 8
theorem headB_eq (m n : Nat) : headB m n = UInt8.ofNat (32 * m + codeN n) :: dg n (lenN n) := by
  unfold headB codeN lenN
  repeat' split
  all_goals rfl
theorem codeN_lt (n : Nat) : codeN n < 28 := by
  unfold codeN
  repeat' split
  all_goals omega
theorem headB_inj {m n m' n' : Nat} {r r' : List UInt8} (hm : m ≤ 7) (hm' : m' ≤ 7) (hn : n < W64) (hn' : n' < W64) (h : headB m n ++ r = headB m' n' ++ r') : m = m' ∧ n = n' ∧ r = r' := by
  rw [headB_eq, headB_eq, List.cons_append, List.cons_append, List.cons.injEq] at h
  obtain ⟨h1, h2⟩ := h
  have hc := codeN_lt n
  have hc' := codeN_lt n'
  have h3 := ofNat_inj (by omega) (by omega) h1
  have hmm : m = m' := by omega
  have hcc : codeN n = codeN n' := by omega
  have hl : lenN n = lenN n' := by
    unfold codeN at hcc
    unfold lenN
    repeat' split at hcc
    all_goals (repeat' split) <;> omega
  have h4 := List.append_inj h2 (by rw [dg_length, dg_length, hl])
  refine ⟨hmm, ?_, h4.2⟩
  have h5 := h4.1
  rw [hl] at h5
  have h6 := dg_inj _ h5
  rw [← hl] at h6
  unfold W64 at hn hn'
  unfold codeN at hcc
  unfold lenN at h6
  repeat' split at hcc
  all_goals
    (repeat' split at h6)
  all_goals omega
theorem headB_31 {m n m' : Nat} {r r' : List UInt8} (hm : m ≤ 7) (hm' : m' ≤ 7) (h : headB m n ++ r = UInt8.ofNat (32 * m' + 31) :: r') : False := by
  rw [headB_eq, List.cons_append, List.cons.injEq] at h
  have hc := codeN_lt n
  have h3 := ofNat_inj (by omega) (by omega) h.1
  omega
inductive NOk : Tr → Prop
  | mk (k : Int) (n : Nat) (s : List UInt8) (l : List Tr) (o : Bool) (hn : n < W64) (hs : s.length < W64) (hl : ∀ (i : Nat) (t : Tr), l[i]? = some t → NOk t) : NOk (.mk k n s l o)
theorem TAt.nok {w : World} {t : Tr} {cs : List Value} (h : TAt w t cs) : NOk t := by
  induction h with
  | mk k n s l o a c C hn hs hl hat hel ih => exact .mk k n s l o hn (by unfold R47 at hs; unfold W64; omega) ih
inductive Form : Tr → Prop
  | num (n : Nat) : Form (.mk 0 n [] [] false)
  | str (s : List UInt8) : Form (.mk 2 0 s [] false)
  | text (s : List UInt8) : Form (.mk 3 0 s [] false)
  | arr (l : List Tr) (h : l.length ≤ 1000) : Form (.mk 4 0 [] l false)
  | opn (l : List Tr) : Form (.mk 4 0 [] l true)
theorem form_of {t : Tr} (h : plainB t = true) : Form t := by
  obtain ⟨k, n, s, l, o⟩ := t
  rw [plainB_eq] at h
  rcases okN_true (Bool.and_eq_true_iff.1 h).1 with ⟨h1, h2, h3, h4⟩ | ⟨h1, h2, h3, h4⟩ | ⟨h1, h2, h3, h4⟩ | ⟨h1, h2, h3, h4⟩
  · simp only [Tr.k, Tr.s, Tr.o, Tr.l] at h1 h2 h3 h4
    obtain rfl := List.length_eq_zero_iff.1 h3
    subst h1 h2 h4
    exact .num n
  · simp only [Tr.k, Tr.n, Tr.o, Tr.l] at h1 h2 h3 h4
    obtain rfl := List.length_eq_zero_iff.1 h3
    subst h1 h2 h4
    exact .str s
  · simp only [Tr.k, Tr.n, Tr.o, Tr.l] at h1 h2 h3 h4
    obtain rfl := List.length_eq_zero_iff.1 h3
    subst h1 h2 h4
    exact .text s
  · simp only [Tr.k, Tr.n, Tr.s, Tr.l] at h1 h2 h3 h4
    subst h1 h2 h3
    cases o with
    | false => exact .arr l h4
    | true => exact .opn l
theorem bytes_num (n : Nat) : bytesB (.mk 0 n [] [] false) = headB 0 n := by rw [bytesB]; simp
theorem bytes_str (s : List UInt8) : bytesB (.mk 2 0 s [] false) = headB 2 s.length ++ s := by rw [bytesB]; simp
theorem bytes_text (s : List UInt8) : bytesB (.mk 3 0 s [] false) = headB 3 s.length ++ s := by rw [bytesB]; simp
theorem bytes_arr (l : List Tr) : bytesB (.mk 4 0 [] l false) = headB 4 l.length ++ bytesL l := by rw [bytesB]; simp
theorem bytes_opn (l : List Tr) : bytesB (.mk 4 0 [] l true) = UInt8.ofNat (32 * 4 + 31) :: (bytesL l ++ [255]) := by rw [bytesB]; simp
theorem bytes_255 {t : Tr} (h : plainB t = true) {r r' : List UInt8} (he : bytesB t ++ r = UInt8.ofNat (32 * 7 + 31) :: r') : False := by
  cases form_of h with
  | num n => rw [bytes_num] at he; exact headB_31 (by omega) (by omega) he
  | str s => rw [bytes_str, List.append_assoc] at he; exact headB_31 (by omega) (by omega) he
  | text s => rw [bytes_text, List.append_assoc] at he; exact headB_31 (by omega) (by omega) he
  | arr l _ => rw [bytes_arr, List.append_assoc] at he; exact headB_31 (by omega) (by omega) he
  | opn l => rw [bytes_opn, List.cons_append, List.cons.injEq] at he; exact absurd he.1 (by decide)
mutual
theorem bytesB_inj : ∀ (a b : Tr) (r r' : List UInt8), plainB a = true → plainB b = true → NOk a → NOk b → bytesB a ++ r = bytesB b ++ r' → a = b ∧ r = r'
  | .mk k n s l o, b, r, r', ha, hb, na, nb, h => by
    have hla : ∀ x ∈ l, plainB x = true ∧ NOk x := by
      intro x hx
      rw [plainB_eq] at ha
      cases na with
      | mk _ _ _ _ _ _ _ hl =>
        obtain ⟨i, hi, rfl⟩ := List.getElem_of_mem hx
        exact ⟨List.all_eq_true.1 (Bool.and_eq_true_iff.1 ha).2 _ hx, hl i _ (List.getElem?_eq_getElem hi)⟩
    have hlb : ∀ x ∈ b.l, plainB x = true ∧ NOk x := by
      intro x hx
      rw [plainB_eq] at hb
      cases nb with
      | mk _ _ _ _ _ _ _ hl =>
        obtain ⟨i, hi, rfl⟩ := List.getElem_of_mem hx
        exact ⟨List.all_eq_true.1 (Bool.and_eq_true_iff.1 hb).2 _ hx, hl i _ (List.getElem?_eq_getElem hi)⟩
    have hnl := bytesL_inj l
    have hno := bytesL_open l
    have na1 : n < W64 ∧ s.length < W64 := by cases na with | mk _ _ _ _ _ h1 h2 _ => exact ⟨h1, h2⟩
    have nb1 : b.n < W64 ∧ b.s.length < W64 := by cases nb with | mk _ _ _ _ _ h1 h2 _ => exact ⟨h1, h2⟩
    have w4 : 1000 < W64 := by decide
    have fa := form_of ha
    have fb := form_of hb
    clear ha hb na nb
    cases fa with
    | num =>
      rw [bytes_num] at h
      cases fb with
      | num n' => simp only [Tr.n, Tr.s, Tr.l] at nb1 hlb; rw [bytes_num] at h; obtain ⟨_, h2, h3⟩ := headB_inj (by omega) (by omega) na1.1 nb1.1 h; exact ⟨by rw [h2], h3⟩
      | str s' => simp only [Tr.n, Tr.s, Tr.l] at nb1 hlb; rw [bytes_str, List.append_assoc] at h; obtain ⟨h1, _⟩ := headB_inj (by omega) (by omega) na1.1 nb1.2 h; omega
      | text s' => simp only [Tr.n, Tr.s, Tr.l] at nb1 hlb; rw [bytes_text, List.append_assoc] at h; obtain ⟨h1, _⟩ := headB_inj (by omega) (by omega) na1.1 nb1.2 h; omega
      | arr l' h' => simp only [Tr.n, Tr.s, Tr.l] at nb1 hlb; rw [bytes_arr, List.append_assoc] at h; obtain ⟨h1, _⟩ := headB_inj (by omega) (by omega) na1.1 (by omega) h; omega
      | opn l' => simp only [Tr.n, Tr.s, Tr.l] at nb1 hlb; rw [bytes_opn, List.cons_append] at h; exact (headB_31 (by omega) (by omega) h).elim
    | str =>
      rw [bytes_str, List.append_assoc] at h
      cases fb with
      | num n' => simp only [Tr.n, Tr.s, Tr.l] at nb1 hlb; rw [bytes_num] at h; obtain ⟨h1, _⟩ := headB_inj (by omega) (by omega) na1.2 nb1.1 h; omega
      | str s' =>
        simp only [Tr.n, Tr.s, Tr.l] at nb1 hlb
        rw [bytes_str, List.append_assoc] at h
        obtain ⟨_, h2, h3⟩ := headB_inj (by omega) (by omega) na1.2 nb1.2 h
        obtain ⟨h4, h5⟩ := List.append_inj h3 h2
        exact ⟨by rw [h4], h5⟩
      | text s' => simp only [Tr.n, Tr.s, Tr.l] at nb1 hlb; rw [bytes_text, List.append_assoc] at h; obtain ⟨h1, _⟩ := headB_inj (by omega) (by omega) na1.2 nb1.2 h; omega
      | arr l' h' => simp only [Tr.n, Tr.s, Tr.l] at nb1 hlb; rw [bytes_arr, List.append_assoc] at h; obtain ⟨h1, _⟩ := headB_inj (by omega) (by omega) na1.2 (by omega) h; omega
      | opn l' => simp only [Tr.n, Tr.s, Tr.l] at nb1 hlb; rw [bytes_opn, List.cons_append] at h; exact (headB_31 (by omega) (by omega) h).elim
    | text =>
      rw [bytes_text, List.append_assoc] at h
      cases fb with
      | num n' => simp only [Tr.n, Tr.s, Tr.l] at nb1 hlb; rw [bytes_num] at h; obtain ⟨h1, _⟩ := headB_inj (by omega) (by omega) na1.2 nb1.1 h; omega
      | str s' => simp only [Tr.n, Tr.s, Tr.l] at nb1 hlb; rw [bytes_str, List.append_assoc] at h; obtain ⟨h1, _⟩ := headB_inj (by omega) (by omega) na1.2 nb1.2 h; omega
      | text s' =>
        simp only [Tr.n, Tr.s, Tr.l] at nb1 hlb
        rw [bytes_text, List.append_assoc] at h
        obtain ⟨_, h2, h3⟩ := headB_inj (by omega) (by omega) na1.2 nb1.2 h
        obtain ⟨h4, h5⟩ := List.append_inj h3 h2
        exact ⟨by rw [h4], h5⟩
      | arr l' h' => simp only [Tr.n, Tr.s, Tr.l] at nb1 hlb; rw [bytes_arr, List.append_assoc] at h; obtain ⟨h1, _⟩ := headB_inj (by omega) (by omega) na1.2 (by omega) h; omega
      | opn l' => simp only [Tr.n, Tr.s, Tr.l] at nb1 hlb; rw [bytes_opn, List.cons_append] at h; exact (headB_31 (by omega) (by omega) h).elim
    | arr _ hle =>
      rw [bytes_arr, List.append_assoc] at h
      cases fb with
      | num n' => simp only [Tr.n, Tr.s, Tr.l] at nb1 hlb; rw [bytes_num] at h; obtain ⟨h1, _⟩ := headB_inj (by omega) (by omega) (by omega) nb1.1 h; omega
      | str s' => simp only [Tr.n, Tr.s, Tr.l] at nb1 hlb; rw [bytes_str, List.append_assoc] at h; obtain ⟨h1, _⟩ := headB_inj (by omega) (by omega) (by omega) nb1.2 h; omega
      | text s' => simp only [Tr.n, Tr.s, Tr.l] at nb1 hlb; rw [bytes_text, List.append_assoc] at h; obtain ⟨h1, _⟩ := headB_inj (by omega) (by omega) (by omega) nb1.2 h; omega
      | arr l' h' =>
        simp only [Tr.n, Tr.s, Tr.l] at nb1 hlb
        rw [bytes_arr, List.append_assoc] at h
        obtain ⟨_, h2, h3⟩ := headB_inj (by omega) (by omega) (by omega) (by omega) h
        obtain ⟨h4, h5⟩ := hnl l' r r' hla hlb h2 h3
        exact ⟨by rw [h4], h5⟩
      | opn l' => simp only [Tr.n, Tr.s, Tr.l] at nb1 hlb; rw [bytes_opn, List.cons_append] at h; exact (headB_31 (by omega) (by omega) h).elim
    | opn =>
      rw [bytes_opn, List.cons_append] at h
      cases fb with
      | num n' => simp only [Tr.n, Tr.s, Tr.l] at nb1 hlb; rw [bytes_num] at h; exact (headB_31 (by omega) (by omega) h.symm).elim
      | str s' => simp only [Tr.n, Tr.s, Tr.l] at nb1 hlb; rw [bytes_str, List.append_assoc (headB _ _)] at h; exact (headB_31 (by omega) (by omega) h.symm).elim
      | text s' => simp only [Tr.n, Tr.s, Tr.l] at nb1 hlb; rw [bytes_text, List.append_assoc (headB _ _)] at h; exact (headB_31 (by omega) (by omega) h.symm).elim
      | arr l' h' => simp only [Tr.n, Tr.s, Tr.l] at nb1 hlb; rw [bytes_arr, List.append_assoc (headB _ _)] at h; exact (headB_31 (by omega) (by omega) h.symm).elim
      | opn l' =>
        simp only [Tr.n, Tr.s, Tr.l] at nb1 hlb
        rw [bytes_opn, List.cons_append, List.cons.injEq] at h
        have h2 := h.2
        rw [List.append_assoc, List.append_assoc] at h2
        obtain ⟨h4, h5⟩ := hno l' r r' hla hlb h2
        exact ⟨by rw [h4], h5⟩
theorem bytesL_inj : ∀ (l l' : List Tr) (r r' : List UInt8), (∀ x ∈ l, plainB x = true ∧ NOk x) → (∀ x ∈ l', plainB x = true ∧ NOk x) → l.length = l'.length → bytesL l ++ r = bytesL l' ++ r' → l = l' ∧ r = r'
  | [], [], r, r', _, _, _, h => ⟨rfl, by simpa [bytesL] using h⟩
  | [], _ :: _, _, _, _, _, hl, _ => by cases hl
  | _ :: _, [], _, _, _, _, hl, _ => by cases hl
  | a :: l, b :: l', r, r', ha, hb, hl, h => by
    rw [bytesL, bytesL, List.append_assoc, List.append_assoc] at h
    obtain ⟨h1, h2⟩ := bytesB_inj a b _ _ (ha a (by simp)).1 (hb b (by simp)).1 (ha a (by simp)).2 (hb b (by simp)).2 h
    obtain ⟨h3, h4⟩ := bytesL_inj l l' r r' (fun x hx => ha x (by simp [hx])) (fun x hx => hb x (by simp [hx])) (by simpa using hl) h2
    exact ⟨by rw [h1, h3], h4⟩
theorem bytesL_open : ∀ (l l' : List Tr) (r r' : List UInt8), (∀ x ∈ l, plainB x = true ∧ NOk x) → (∀ x ∈ l', plainB x = true ∧ NOk x) → bytesL l ++ ([255] ++ r) = bytesL l' ++ ([255] ++ r') → l = l' ∧ r = r'
  | [], [], r, r', _, _, h => ⟨rfl, by simpa [bytesL] using h⟩
  | [], b :: l', r, r', _, hb, h => by
    rw [bytesL, bytesL, List.append_assoc] at h
    exact (bytes_255 (hb b (by simp)).1 h.symm).elim
  | a :: l, [], r, r', ha, _, h => by
    rw [bytesL, bytesL, List.append_assoc] at h
    exact (bytes_255 (ha a (by simp)).1 h).elim
  | a :: l, b :: l', r, r', ha, hb, h => by
    rw [bytesL, bytesL, List.append_assoc, List.append_assoc] at h
    obtain ⟨h1, h2⟩ := bytesB_inj a b _ _ (ha a (by simp)).1 (hb b (by simp)).1 (ha a (by simp)).2 (hb b (by simp)).2 h
    obtain ⟨h3, h4⟩ := bytesL_open l l' r r' (fun x hx => ha x (by simp [hx])) (fun x hx => hb x (by simp [hx])) h2
    exact ⟨by rw [h1, h3], h4⟩
end
theorem bytes_eq {a b : Tr} (ha : plainB a = true) (hb : plainB b = true) (na : NOk a) (nb : NOk b) : bytesB a = bytesB b ↔ a = b :=
  ⟨fun h => (bytesB_inj a b [] [] ha hb na nb (by rw [h])).1, fun h => by rw [h]⟩
end Go.Proofs.Ythoickghfjgmmaa.Itm
