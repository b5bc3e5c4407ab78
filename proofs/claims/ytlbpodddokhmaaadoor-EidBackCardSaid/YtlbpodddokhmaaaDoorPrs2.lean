/-
  The walks of strings.Cut at a point, and of eid.Parse.
  Conditions: the library's variables hold what the program's text lays.
-/
import Derived.Test.YtlbpodddokhmaaaDoorPrs
import Derived.Test.YtlbpodddokhmaaaDoorItm12
import Derived.Test.YtlbpodddokhmaaaDoorTxt
import Derived.Lib.IndexLaws
namespace Go.Proofs.YtlbpodddokhmaaaDoor.Fmt
open Go.ChangeShapes Go.WideShapes Go.ChangeAt Go.RowKit Go.Deep Go.Lib Go.Proofs.YtlbpodddokhmaaaDoor.Itm Go.Proofs.YtlbpodddokhmaaaDoor.Eid
/-- What Cut answers at a point. -/
def CutR (l : List UInt8) (e : Ending) : Prop := ∃ (a b : List UInt8) (k : Bool), e = .returned (.tuple #[.string (B a), .string (B b), .bool k]) ∧ a.length ≤ l.length ∧ b.length ≤ l.length ∧ ((k = true ∧ l = a ++ 46 :: b ∧ (46 : UInt8) ∉ a) ∨ (k = false ∧ a = l ∧ b = [] ∧ (46 : UInt8) ∉ l))
theorem split_at {l : List UInt8} {o : Nat} (h : l[o]? = some 46) (hb : ∀ k, k < o → l[k]? ≠ some 46) : l = l.take o ++ 46 :: l.drop (o + 1) ∧ (46 : UInt8) ∉ l.take o := by
  have ho : o < l.length := (List.getElem?_eq_some_iff.1 h).1
  constructor
  · have h1 : l.drop o = 46 :: l.drop (o + 1) := by
      rw [List.drop_eq_getElem_cons ho]
      have := (List.getElem?_eq_some_iff.1 h).2
      rw [this]
    rw [← h1, List.take_append_drop]
  · intro hm
    obtain ⟨k, hk, he⟩ := List.getElem_of_mem hm
    have hk2 : k < o := by rw [List.length_take] at hk; omega
    refine hb k hk2 ?_
    rw [List.getElem_take] at he
    rw [List.getElem?_eq_getElem (by omega), he]
set_option maxHeartbeats 1600000 in
set_option maxRecDepth 100000 in
theorem iCut_any (l : List UInt8) (hl : l.length ≤ 1000) (w : World) : Calls Tryd.prog 28 #[.string (B l), .string (B [46])] w fun e w' => CutR l e ∧ Below w.heap.size w w' := by
  have HI := Lib.hid (Tryd.stringslite_Index_one (B l) 46 w)
  have hge := indexByte_ge l 46
  by_cases hi : indexByte l 46 = -1
  · have HR : Hid (CutR l (.returned (.tuple #[.string (B l), .string (B []), .bool false]))) := Lib.hid ⟨l, [], false, rfl, Nat.le_refl _, Nat.zero_le _, .inr ⟨rfl, rfl, rfl, fun hm => by
      obtain ⟨k, hk, he⟩ := List.getElem_of_mem hm
      exact indexByte_none hi k (by rw [List.getElem?_eq_getElem hk, he])⟩⟩
    rw [B_data, hi] at HI
    clear hi hge
    go_enter Tryd.func28, Tryd.ntmps28
    go_wp2_with fail
    refine HI.out.mono ?_
    rintro e w' ⟨rfl, rfl⟩
    go_wp2
    exact bodyPost_ret (v := .tuple #[.string (B l), .string (B []), .bool false]) (by simp [results, Tryd.results28, go_sem]; rfl) rfl ⟨HR.out, Below.refl _ _⟩
  · obtain ⟨o, ho⟩ : ∃ o : Nat, indexByte l 46 = (o : Int) := ⟨(indexByte l 46).toNat, by omega⟩
    obtain ⟨h1, h2⟩ := indexByte_some ho
    have hol : o < l.length := (List.getElem?_eq_some_iff.1 h1).1
    have HR : Hid (CutR l (.returned (.tuple #[.string (B (l.take o)), .string (B (l.drop (o + 1))), .bool true]))) := Lib.hid ⟨l.take o, l.drop (o + 1), true, rfl, by simp; omega, by simp, .inl ⟨rfl, (split_at h1 h2).1, (split_at h1 h2).2⟩⟩
    rw [B_data, ho] at HI
    have ho1 : o + 1 ≤ l.length := by omega
    clear hi hge ho h1 h2
    go_enter Tryd.func28, Tryd.ntmps28
    go_wp2_with fail
    refine HI.out.mono ?_
    rintro e w' ⟨rfl, rfl⟩
    go_wp2_with fail
    go_region
    go_wp2
    exact bodyPost_ret (v := .tuple #[.string (B (l.take o)), .string (B (l.drop (o + 1))), .bool true]) (by simp [results, Tryd.results28, go_sem]) rfl ⟨HR.out, by ((repeat' (with_reducible first | exact Below.refl _ _ | assumption | refine Below.drew ?_ | refine below_drewN ?_ _ | refine Below.setCell ?_ ?_ _ | refine Below.alloc ?_ ?_ _ | refine Below.ext ?_ ?_ _ | refine Below.trans ?_ (Below.mono ‹_› ?_))) <;> first | omega | (simp; done) | (simp; omega))⟩
set_option maxRecDepth 100000 in
theorem Cut_any (l : List UInt8) (hl : l.length ≤ 1000) (w : World) : Calls Tryd.prog 15 #[.string (B l), .string (B [46])] w fun e w' => CutR l e ∧ Below w.heap.size w w' := by
  have H := Lib.hid (iCut_any l hl w)
  clear hl
  go_enter Tryd.func15, Tryd.ntmps15
  go_wp2_with fail
  refine H.out.mono ?_
  rintro e w' ⟨hc, hb⟩
  have HC := Lib.hid hc
  obtain ⟨a, b, k, rfl, _⟩ := hc
  have HB := Lib.hid hb
  clear hb
  go_wp2
  exact bodyPost_ret (v := .tuple #[.string (B a), .string (B b), .bool k]) (by simp [results, Tryd.results15, go_sem]) rfl ⟨HC.out, HB.out⟩
/-- What Parse answers: the right name that has the text, or an error. -/
def ParseR (s : List UInt8) (e : Ending) : Prop := ∃ (m : Nm) (k : Nat), e = .returned (.tuple #[nmV m, .int .i64 k]) ∧ ((k = 0 ∧ m.right = true ∧ textB m.s m.l m.n m.v = s) ∨ (k = 2 ∧ m = Nm.zero ∧ ∀ m' : Nm, m'.right = true → textB m'.s m'.l m'.n m'.v ≠ s))
theorem right_cases {m : Nm} (h : m.right = true) : (m.s = 1 ∧ m.n = 0 ∧ m.v = 0 ∧ rightB 1 m.l 0 0 = true) ∨ (m.s = 2 ∧ m.l = [] ∧ m.n ≤ 4294967295 ∧ m.v ≤ 4294967295) := by
  have h2 := h
  unfold Nm.right rightB at h
  split at h
  · next h1 =>
    rw [Bool.and_eq_true, decide_eq_true_eq] at h
    obtain ⟨⟨hn, hv⟩, _⟩ := h
    refine .inl ⟨by omega, by omega, by omega, ?_⟩
    unfold Nm.right at h2
    rw [h1, hn, hv] at h2
    exact h2
  · split at h
    · next h1 =>
      rw [decide_eq_true_eq] at h
      exact .inr ⟨by omega, h.1, by omega, by omega⟩
    · cases h
theorem right_two {n v : Nat} (hn : n ≤ 4294967295) (hv : v ≤ 4294967295) : (⟨2, [], n, v⟩ : Nm).right = true := by
  unfold Nm.right rightB
  simp
  omega
theorem dec_no_dot (n : Nat) : (46 : UInt8) ∉ decDigits n := fun h => by
  have := dec_digits n 46 h
  simp at this
theorem split_uniq : ∀ {a b c d : List UInt8}, a ++ 46 :: b = c ++ 46 :: d → (46 : UInt8) ∉ a → (46 : UInt8) ∉ c → a = c ∧ b = d
  | [], b, [], d, h, _, _ => by simpa using h
  | [], b, y :: c, d, h, _, hc => by
    simp only [List.nil_append, List.cons_append, List.cons.injEq] at h
    exact absurd (by rw [h.1]; simp) hc
  | x :: a, b, [], d, h, ha, _ => by
    simp only [List.nil_append, List.cons_append, List.cons.injEq] at h
    exact absurd (by rw [← h.1]; simp) ha
  | x :: a, b, y :: c, d, h, ha, hc => by
    simp only [List.cons_append, List.cons.injEq] at h
    obtain ⟨h1, h2⟩ := split_uniq h.2 (fun hm => ha (by simp [hm])) (fun hm => hc (by simp [hm]))
    exact ⟨by rw [h.1, h1], h2⟩
theorem dec_inj {n m : Nat} (hn : n < W64) (hm : m < W64) (h : decDigits n = decDigits m) : n = m := by
  have h1 := parse_dec hn
  rw [h, parse_dec hm] at h1
  injection h1 with h1
  exact h1.symm
def dtnP : List UInt8 := [100, 116, 110, 58]
def ipnP : List UInt8 := [105, 112, 110, 58]
theorem textB_one (l : List UInt8) (n v : Nat) : textB 1 l n v = dtnP ++ l := by unfold textB; rw [if_pos rfl]; rfl
theorem textB_two (l : List UInt8) (n v : Nat) : textB 2 l n v = ipnP ++ (decDigits n ++ 46 :: decDigits v) := by
  unfold textB
  rw [if_neg (by decide)]
  simp [ipnP, List.append_assoc]
/-- Two right names of one text are one. -/
theorem text_inj {m m' : Nm} (h : m.right = true) (h' : m'.right = true) (he : textB m.s m.l m.n m.v = textB m'.s m'.l m'.n m'.v) : m = m' := by
  obtain ⟨s, l, n, v⟩ := m
  obtain ⟨s', l', n', v'⟩ := m'
  rcases right_cases h with ⟨h1, h2, h3, _⟩ | ⟨h1, h2, h3, h4⟩ <;> rcases right_cases h' with ⟨g1, g2, g3, _⟩ | ⟨g1, g2, g3, g4⟩ <;> simp only at h1 h2 h3 g1 g2 g3 he
  · subst h1 h2 h3 g1 g2 g3
    have e1 := textB_one l 0 0
    have e2 := textB_one l' 0 0
    have he' : textB 1 l 0 0 = textB 1 l' 0 0 := he
    rw [e1, e2] at he'
    rw [List.append_cancel_left he']
  · subst h1 g1
    have he' : textB 1 l n v = textB 2 l' n' v' := he
    rw [textB_one, textB_two] at he'
    simp [dtnP, ipnP] at he'
  · subst h1 g1
    have he' : textB 2 l n v = textB 1 l' n' v' := he
    rw [textB_one, textB_two] at he'
    simp [dtnP, ipnP] at he'
  · subst h1 h2 g1 g2
    have he' : textB 2 [] n v = textB 2 [] n' v' := he
    rw [textB_two, textB_two] at he'
    obtain ⟨e1, e2⟩ := split_uniq (List.append_cancel_left he') (dec_no_dot n) (dec_no_dot n')
    simp only at h4 g4
    have hW : W64 = 18446744073709551616 := rfl
    rw [dec_inj (by omega) (by omega) e1, dec_inj (by omega) (by omega) e2]
/-- Two answers are one. -/
theorem parse_same {s : List UInt8} {e f : Ending} (he : ParseR s e) (hf : ParseR s f) : f = e := by
  obtain ⟨m, k, rfl, h⟩ := he
  obtain ⟨m', k', rfl, h'⟩ := hf
  rcases h with ⟨rfl, hr, ht⟩ | ⟨rfl, rfl, hn⟩
  · rcases h' with ⟨rfl, hr', ht'⟩ | ⟨rfl, rfl, hn'⟩
    · rw [text_inj hr hr' (ht.trans ht'.symm)]
    · exact absurd ht (hn' m hr)
  · rcases h' with ⟨rfl, hr', ht'⟩ | ⟨rfl, rfl, _⟩
    · exact absurd ht' (hn m' hr')
    · rfl
/-- No name has a text that begins otherwise. -/
theorem no_text {s : List UInt8} (h1 : pre dtnP s = false) (h2 : pre ipnP s = false) : ∀ m' : Nm, m'.right = true → textB m'.s m'.l m'.n m'.v ≠ s := fun m hm he => by
  obtain ⟨x, l, n, v⟩ := m
  rcases right_cases hm with ⟨g1, _⟩ | ⟨g1, _⟩ <;> simp only at g1 he <;> subst g1
  · have : pre dtnP s = true := by rw [pre_iff]; exact ⟨l, by rw [← he]; exact textB_one l n v⟩
    rw [h1] at this; cases this
  · have : pre ipnP s = true := by rw [pre_iff]; exact ⟨_, by rw [← he]; exact textB_two l n v⟩
    rw [h2] at this; cases this
theorem dtn_text {s : List UInt8} (h : pre dtnP s = true) (hr : rightB 1 (s.drop 4) 0 0 = false) : ∀ m' : Nm, m'.right = true → textB m'.s m'.l m'.n m'.v ≠ s := fun m hm he => by
  obtain ⟨r, rfl⟩ := pre_iff.1 h
  obtain ⟨x, l, n, v⟩ := m
  rcases right_cases hm with ⟨g1, g2, g3, g4⟩ | ⟨g1, _⟩ <;> simp only at g1 he <;> subst g1
  · have he' : textB 1 l n v = dtnP ++ r := he
    rw [textB_one] at he'
    have := List.append_cancel_left he'
    subst this
    have e : (dtnP ++ l).drop 4 = l := rfl
    rw [e] at hr
    simp only at g4
    rw [hr] at g4; cases g4
  · have he' : textB 2 l n v = dtnP ++ r := he
    rw [textB_two] at he'
    simp [dtnP, ipnP] at he'
theorem ipn_text {r : List UInt8} (h : ∀ n v : Nat, n ≤ 4294967295 → v ≤ 4294967295 → r ≠ decDigits n ++ 46 :: decDigits v) : ∀ m' : Nm, m'.right = true → textB m'.s m'.l m'.n m'.v ≠ ipnP ++ r := fun m hm he => by
  obtain ⟨x, l, n, v⟩ := m
  rcases right_cases hm with ⟨g1, _⟩ | ⟨g1, g2, g3, g4⟩ <;> simp only at g1 he <;> subst g1
  · have he' : textB 1 l n v = ipnP ++ r := he
    rw [textB_one] at he'
    simp [dtnP, ipnP] at he'
  · have he' : textB 2 l n v = ipnP ++ r := he
    rw [textB_two] at he'
    exact h n v g3 g4 (List.append_cancel_left he').symm
end Go.Proofs.YtlbpodddokhmaaaDoor.Fmt
