/-
  The walks of eid: node, named and what they call: each returns what a plain function of lists of bytes says.
  Conditions: a string is no longer than the model lets it be.
-/
import Derived.Test.YtlbpodddokhmaaaDoorStr
namespace Go.Proofs.YtlbpodddokhmaaaDoor.Eid
open Go.ChangeShapes Go.WideShapes Go.ChangeAt Go.RowKit

theorem HasPrefix_any (l p : List UInt8) (w : World) : Calls Tryd.prog 35 #[.string (B l), .string (B p)] w fun e w' => e = .returned (.bool (pre p l)) ∧ w = w' := by
  have h := pre_of_take l p
  have H := Lib.hid h
  clear h
  go_enter Tryd.func35, Tryd.ntmps35
  go_wp2
  all_goals
    go_ret
    exact ⟨by rw [← H.out]; refine ret_bool ?_; simp_all; try omega, rfl⟩
theorem CutPrefix'_any (l p : List UInt8) (w : World) : Calls Tryd.prog 27 #[.string (B l), .string (B p)] w fun e w' => e = .returned (.tuple #[.string (B (cutp p l)), .bool (pre p l)]) ∧ w = w' := by
  cases hp : pre p l
  · have hc := cutp_false hp
    have H := Lib.hid hp
    have HC := Lib.hid hc
    clear hp hc
    go_enter Tryd.func27, Tryd.ntmps27
    go_wp2_with (go_at_call 35; refine (HasPrefix_any _ _ _).mono ?_; rw [H.out]; rintro e w' ⟨rfl, rfl⟩)
    go_ret2
    exact ⟨by rw [HC.out]; rfl, rfl⟩
  · have hle := pre_length hp
    have hc := cutp_true hp
    have H := Lib.hid hp
    have HC := Lib.hid hc
    clear hp hc
    go_enter Tryd.func27, Tryd.ntmps27
    go_wp2_with (go_at_call 35; refine (HasPrefix_any _ _ _).mono ?_; rw [H.out]; rintro e w' ⟨rfl, rfl⟩)
    go_ret2
    exact ⟨by rw [HC.out]; rfl, rfl⟩
theorem CutPrefix_any (l p : List UInt8) (w : World) : Calls Tryd.prog 14 #[.string (B l), .string (B p)] w fun e w' => e = .returned (.tuple #[.string (B (cutp p l)), .bool (pre p l)]) ∧ w = w' := by
  go_enter Tryd.func14, Tryd.ntmps14
  go_wp2_with (go_at_call 27; refine (CutPrefix'_any _ _ _).mono ?_; rintro e w' ⟨rfl, rfl⟩)
  go_ret2
  exact ⟨rfl, rfl⟩

/-- 'nodeByte' of a rune. -/
def nb (c : Int) : Bool := decide (97 ≤ c ∧ c ≤ 122 ∨ 48 ≤ c ∧ c ≤ 57 ∨ c = 45 ∨ c = 46)
theorem nodeByte_any (c : Int) (w : World) : Calls Tryd.prog 44 #[.int .i32 c] w fun e w' => e = .returned (.bool (nb c)) ∧ w = w' := by
  go_enter Tryd.func44, Tryd.ntmps44
  go_wp2
  all_goals
    go_ret
    exact ⟨ret_bool (by simp [nb] <;> omega), rfl⟩

/-- The bytes of a name's node behind the two strokes, from the i-th on: where the third stroke is, or 0. -/
def scan : List UInt8 → Nat → Nat
  | [], _ => 0
  | c :: r, i => if nb c.toNat then scan r (i + 1) else if c.toNat = 47 ∧ 0 < i then i + 3 else 0
/-- How many bytes of a name are the node's; 0: none. -/
def nodeN (l : List UInt8) : Nat := if pre [47, 47] l ∧ l.length ≤ 60 then scan (l.drop 2) 0 else 0

theorem node_any (l : List UInt8) (w : World) (hl : l.length ≤ maxLen) : Calls Tryd.prog 34 #[.string (B l)] w fun e w' => e = .returned (.int .i64 (nodeN l)) ∧ Below w.heap.size w w' := by
  unfold maxLen at hl
  go_enter Tryd.func34, Tryd.ntmps34
  go_wp2_with fail
  refine (CutPrefix_any _ [47, 47] _).mono ?_; rintro e w1 ⟨rfl, rfl⟩
  cases hp : pre [47, 47] l
  · have H := Lib.hid hp
    clear hp
    go_wp2
    go_ret
    exact ⟨by unfold nodeN; rw [H.out]; rfl, Below.refl _ _⟩
  · have hc := cutp_true hp
    have H := Lib.hid hp
    rw [hc]
    clear hp hc
    by_cases h60 : l.length ≤ 60
    · have hn : nodeN l = scan (l.drop 2) 0 := by unfold nodeN; rw [if_pos ⟨H.out, h60⟩]
      have hm : (l.drop 2).length ≤ 60 := by simp; omega
      generalize l.drop 2 = m at hn hm
      have HN := Lib.hid hn
      clear hn
      go_wp2
      go_loopw [] (fun wr => ∃ k : Nat, k ≤ m.length ∧ wr = w.iter (B m) k ∧ nodeN l = scan (m.drop k) k) (fun wr => m.length - wr.iterPos w.heap.size)
      case atStart => exact ⟨0, Nat.zero_le _, rfl, HN.out⟩
      case round =>
        obtain ⟨k, hk, rfl, hs⟩ := hrel
        by_cases hlt : k < m.length
        · have hB : k < (B m).size := by rw [B_size]; exact hlt
          have hd : m.drop k = m[k] :: m.drop (k + 1) := List.drop_eq_getElem_cons hlt
          rw [hd] at hs
          have HS := Lib.hid hs
          clear hs hd
          by_cases ha : m[k].toNat < 128
          · have hnx : ∀ ty, (Instr.next (.pointer (some ⟨w.heap.size, 0, none⟩)) true ty).run Tryd.prog (w.iter (B m) k) = .ok (.tuple #[.bool true, .int .i64 k, .int .i32 m[k].toNat]) (w.iter (B m) (k + 1)) := fun ty => run_next_ascii w (B m) k ty hB ha
            generalize hc : m[k].toNat = c at *
            cases hb : nb c
            · have Hb := Lib.hid hb
              by_cases h47 : c = 47
              · by_cases h0 : 0 < k
                · have e : nodeN l = k + 3 := by rw [HS.out]; unfold scan; rw [hc, if_neg (by rw [hb]; decide), if_pos ⟨h47, h0⟩]
                  have HE := Lib.hid e
                  have hb7 : nb 47 = false := by decide
                  have Hb7 := Lib.hid hb7
                  clear e hb hb7
                  subst h47
                  go_wp2_with (go_at_call 44; refine (nodeByte_any _ _).mono ?_; rw [Hb7.out]; rintro e w' ⟨rfl, rfl⟩)
                  go_ret
                  exact ⟨by rw [HE.out]; exact ret_int (by omega), (Below.refl _ _).alloc (Nat.le_refl _) _⟩
                · have e : nodeN l = 0 := by rw [HS.out]; unfold scan; rw [hc, if_neg (by rw [hb]; decide), if_neg (by omega)]
                  have HE := Lib.hid e
                  obtain rfl : k = 0 := by omega
                  have hb7 : nb 47 = false := by decide
                  have Hb7 := Lib.hid hb7
                  clear e hb h0 hb7
                  subst h47
                  go_wp2_with (go_at_call 44; refine (nodeByte_any _ _).mono ?_; rw [Hb7.out]; rintro e w' ⟨rfl, rfl⟩)
                  go_ret
                  exact ⟨by rw [HE.out]; rfl, (Below.refl _ _).alloc (Nat.le_refl _) _⟩
              · have e : nodeN l = 0 := by rw [HS.out]; unfold scan; rw [hc, if_neg (by rw [hb]; decide), if_neg (by omega)]
                have HE := Lib.hid e
                have hne : ((c : Int) == 47) = false := by rw [beq_eq_false_iff_ne]; omega
                clear e hb
                go_wp2_with (go_at_call 44; refine (nodeByte_any _ _).mono ?_; rw [Hb.out]; rintro e w' ⟨rfl, rfl⟩)
                go_ret
                exact ⟨by rw [HE.out]; rfl, (Below.refl _ _).alloc (Nat.le_refl _) _⟩
            · have e : nodeN l = scan (m.drop (k + 1)) (k + 1) := by
                rw [HS.out]
                conv => lhs; unfold scan
                rw [hc, if_pos hb]
              have HE := Lib.hid e
              have Hb := Lib.hid hb
              clear e hb
              go_wp2_with (go_at_call 44; refine (nodeByte_any _ _).mono ?_; rw [Hb.out]; rintro e w' ⟨rfl, rfl⟩)
              go_roundw
              case rel => exact ⟨k + 1, by omega, rfl, HE.out⟩
              case measure => simp; omega
          · have hnx : ∀ ty, (Instr.next (.pointer (some ⟨w.heap.size, 0, none⟩)) true ty).run Tryd.prog (w.iter (B m) k) = _ := fun ty => run_next_any w (B m) k ty hB
            obtain ⟨h1, h2⟩ := decode_high (B m) k hB (by rw [B_get]; omega)
            generalize Utf8.decode (B m) k = dd at hnx h1 h2
            obtain ⟨r, d⟩ := dd
            have hnb : nb r = false := by unfold nb; simp at h1 ⊢; omega
            have e : nodeN l = 0 := by rw [HS.out]; unfold scan; rw [if_neg (by unfold nb; simp; omega), if_neg (by omega)]
            have HE := Lib.hid e
            have Hb := Lib.hid hnb
            have hne : ((r : Int) == 47) = false := by rw [beq_eq_false_iff_ne]; simp at h1; omega
            clear e hnb h1 h2
            go_wp2_with (go_at_call 44; refine (nodeByte_any _ _).mono ?_; rw [Hb.out]; rintro e w' ⟨rfl, rfl⟩)
            go_ret
            exact ⟨by rw [HE.out]; rfl, (Below.refl _ _).alloc (Nat.le_refl _) _⟩
        · have hnx : ∀ ty, (Instr.next (.pointer (some ⟨w.heap.size, 0, none⟩)) true ty).run Tryd.prog (w.iter (B m) k) = _ := fun ty => run_next_end w (B m) k ty (by rw [B_size]; exact hlt)
          have e : nodeN l = 0 := by rw [hs, List.drop_of_length_le (by omega)]; rfl
          have HE := Lib.hid e
          clear e hs
          go_wp2
          go_ret
          exact ⟨by rw [HE.out]; rfl, (Below.refl _ _).alloc (Nat.le_refl _) _⟩
    · go_wp2
      go_ret
      exact ⟨by unfold nodeN; rw [if_neg (by omega)]; rfl, Below.refl _ _⟩

theorem scan_le : ∀ (l : List UInt8) (i : Nat), scan l i ≤ i + l.length + 2
  | [], i => by simp [scan]
  | c :: r, i => by
    unfold scan
    have := scan_le r (i + 1)
    split
    · simp at this ⊢; omega
    · split <;> simp <;> omega
theorem nodeN_le (l : List UInt8) : nodeN l ≤ l.length := by
  unfold nodeN
  split
  · rename_i h
    have h1 := pre_length h.1
    have := scan_le (l.drop 2) 0
    simp at this h1
    omega
  · omega
/-- A visible byte. -/
def visible (c : UInt8) : Bool := decide (33 ≤ c.toNat ∧ c.toNat ≤ 126)
/-- Names of the scheme 1. -/
def namedB (l : List UInt8) : Bool := l == [110, 111, 110, 101] || (nodeN l != 0 && (l.drop (nodeN l)).all visible)
set_option maxRecDepth 100000 in
theorem named_any (l : List UInt8) (w : World) (hl : l.length ≤ maxLen) : Calls Tryd.prog 26 #[.string (B l)] w fun e w' => e = .returned (.bool (namedB l)) ∧ Below w.heap.size w w' := by
  have hle := nodeN_le l
  have hl0 := hl
  unfold maxLen at hl
  go_enter Tryd.func26, Tryd.ntmps26
  cases hn : (l == [110, 111, 110, 101])
  · have HN := Lib.hid hn
    go_wp2_with fail
    refine (node_any _ _ hl0).mono ?_; rintro e w1 ⟨rfl, hb⟩
    cases h0 : ((nodeN l : Int) == 0)
    · have e : namedB l = (l.drop (nodeN l)).all visible := by
        unfold namedB
        rw [HN.out]
        have : (nodeN l != 0) = true := by rw [bne_iff_ne]; rw [beq_eq_false_iff_ne] at h0; omega
        simp [this]
      obtain ⟨cap, w2, hconv, hcap, hb2, hz2, hc2, -⟩ := bytes_conv (P := Tryd.prog) w1 9 61 5 (l.drop (nodeN l)) Tryd.underlying9 Tryd.underlying61 Tryd.underlying5
      have hb3 : Below w.heap.size w w2 := hb.trans (hb2.mono hb.size)
      have hm : (l.drop (nodeN l)).length ≤ 9223372036854775807 := by simp; omega
      generalize nodeN l = n at *
      generalize hmm : l.drop n = m at *
      have htk : m.take (l.length - n) = m := List.take_of_length_le (by rw [← hmm]; simp)
      have HZ := Lib.hid hz2
      have HE := Lib.hid e
      have HC := Lib.hid hc2
      clear hz2 e hc2 hn
      go_wp2
      clear hmm htk
      go_loop [17] (fun i => ∃ k : Nat, k ≤ m.length ∧ i = .int .i64 k ∧ m.all visible = (m.drop k).all visible) (fun i => m.length - (intOf i).toNat)
      case atStart => exact ⟨0, Nat.zero_le _, rfl, rfl⟩
      case round =>
        obtain ⟨k, hk, rfl, hv⟩ := hrel
        by_cases hlt : k < m.length
        · have hcell := HC.out k hlt
          rw [List.drop_eq_getElem_cons hlt, List.all_cons] at hv
          have HV := Lib.hid hv
          clear hv
          go_wp2
          all_goals first
            | (go_ret; exact ⟨ret_bool (by rw [HE.out, HV.out]; simp [visible]; omega), hb3⟩)
            | (go_round
               case rel => exact ⟨k + 1, by omega, by go_num, by rw [HV.out]; simp [visible]; omega⟩
               case measure => simp [intOf]; omega)
        · go_wp2
          go_ret
          exact ⟨ret_bool (by rw [HE.out, hv, List.drop_of_length_le (by omega)]; simp), hb3⟩
    · have e : namedB l = false := by
        unfold namedB
        rw [HN.out]
        rw [beq_iff_eq] at h0
        have : nodeN l = 0 := by omega
        simp [this]
      have HE := Lib.hid e
      clear e
      go_wp2
      go_ret
      exact ⟨by rw [HE.out]; rfl, hb⟩
  · have e : namedB l = true := by unfold namedB; rw [hn]; rfl
    have HE := Lib.hid e
    clear e
    go_wp2
    go_ret
    exact ⟨by rw [HE.out]; rfl, Below.refl _ _⟩
end Go.Proofs.YtlbpodddokhmaaaDoor.Eid
