/-
  The walk of gcm.Open.
  Conditions: named at each.
-/
import Derived.Test.YtlbpodddokhmaaaGreatOpn
namespace Go.Proofs.YtlbpodddokhmaaaGreat.Gf
open Go.ChangeShapes Go.WideShapes Go.ChangeAt Go.RowKit Go.Deep
open Go.Proofs.YtlbpodddokhmaaaGreat.Aes (byteF byteF_lt)
/-- How two blocks differ, up to byte i. -/
def diffN (x y : List UInt8) : Nat → Nat
  | 0 => 0
  | i + 1 => diffN x y i ||| (byteF x i ^^^ byteF y i)
theorem diffN_lt (x y : List UInt8) : ∀ i, diffN x y i < 256
  | 0 => by unfold diffN; omega
  | i + 1 => Nat.or_lt_two_pow (n := 8) (diffN_lt x y i) (Nat.xor_lt_two_pow (n := 8) (byteF_lt x i) (byteF_lt y i))
theorem or_zero {a b : Nat} (h : a ||| b = 0) : a = 0 ∧ b = 0 := by
  constructor
  · apply Nat.eq_of_testBit_eq
    intro i
    have := congrArg (fun n => n.testBit i) h
    simp at this
    simp [this.1]
  · apply Nat.eq_of_testBit_eq
    intro i
    have := congrArg (fun n => n.testBit i) h
    simp at this
    simp [this.2]
theorem diffN_zero (x y : List UInt8) : ∀ i, diffN x y i = 0 ↔ ∀ j, j < i → byteF x j = byteF y j
  | 0 => by simp [diffN]
  | i + 1 => by
    constructor
    · intro h j hj
      obtain ⟨h1, h2⟩ := or_zero (show diffN x y i ||| (byteF x i ^^^ byteF y i) = 0 from h)
      by_cases hji : j = i
      · subst hji
        have : byteF x j ^^^ byteF y j ^^^ byteF y j = 0 ^^^ byteF y j := by rw [h2]
        rw [Nat.xor_assoc, Nat.xor_self, Nat.xor_zero, Nat.zero_xor] at this
        exact this
      · exact (diffN_zero x y i).1 h1 j (by omega)
    · intro h
      rw [diffN, (diffN_zero x y i).2 fun j hj => h j (by omega), h i (by omega), Nat.xor_self]
      rfl
theorem diff_eq {x y : List UInt8} (hx : x.length = 16) (hy : y.length = 16) : diffN x y 16 = 0 ↔ x = y := by
  rw [diffN_zero]
  constructor
  · intro h; exact byteF_ext (by omega) fun j hj => h j (by omega)
  · intro h j _; rw [h]
theorem u8_or_nat (a b : Nat) (ha : a < 256) (hb : b < 256) : bits .or .u8 (a : Int) (b : Int) = ((a ||| b : Nat) : Int) := by
  have h1 : ∀ n : Nat, n < 256 → (BitVec.ofInt 8 (n : Int)).toNat = n := fun n hn => by
    simp; omega
  show IntKind.u8.wrap ((BitVec.ofInt 8 (a : Int) ||| BitVec.ofInt 8 (b : Int)).toNat : Int) = _
  rw [BitVec.toNat_or, h1 a ha, h1 b hb]
  have hx : a ||| b < 2 ^ 8 := Nat.or_lt_two_pow (by omega) (by omega)
  generalize a ||| b = c at *
  simp [IntKind.wrap, IntKind.bits, IntKind.signed]
  omega
set_option maxHeartbeats 1600000 in
set_option maxRecDepth 100000 in
theorem Open_any (k n a t tag : List UInt8) (w : World) (ha : a.length ≤ 1000000) (ht : t.length ≤ 1000000) : Calls Tryz.prog 80 #[.string (B k), .string (B n), .string (B a), .string (B t), .string (B tag)] w fun e w' => e = .returned (.tuple #[.string (B (openS k n a t tag)), .int .i64 ((openE k n a t tag : Nat) : Int)]) ∧ Below w.heap.size w w' := by
  by_cases hk : sealOk k n
  · have HO := Lib.hid (open_any k n w hk.1 hk.2.1 hk.2.2)
    have hkk := hk.1
    have hfl := firstB_length k n
    by_cases h16 : tag.length = 16
    · have hdiff := diff_eq (tagB_length k (firstB k n) a t) h16
      have hS : openS k n a t tag = if diffN (tagB k (firstB k n) a t) tag 16 = 0 then streamB k (firstB k n) t else [] := by
        unfold openS
        by_cases h : tagB k (firstB k n) a t = tag
        · rw [if_pos ⟨hk, h⟩, if_pos (hdiff.2 h)]
        · rw [if_neg (fun e => h e.2), if_neg (fun e => h (hdiff.1 e))]
      have hE : openE k n a t tag = if diffN (tagB k (firstB k n) a t) tag 16 = 0 then 0 else 7 := by
        unfold openE
        rw [if_pos hk]
        by_cases h : tagB k (firstB k n) a t = tag
        · rw [if_pos h, if_pos (hdiff.2 h)]
        · rw [if_neg h, if_neg (fun e => h (hdiff.1 e))]
      have HS := Lib.hid hS
      have HE := Lib.hid hE
      have HTG := Lib.hid fun sb W hs => tag_any k (firstB k n) a t sb W hkk hfl hs ha ht
      have HST := Lib.hid fun sb W hs => stream_any k (firstB k n) t sb W hkk hfl hs ht
      have htl := tagB_length k (firstB k n) a t
      have HSB := Lib.hid (show ∀ (w w' : World) (sb : Nat), Below w.heap.size w w' → SealerAt w sb k (firstB k n) → SealerAt w' sb k (firstB k n) from fun _ _ _ h hs => sealer_below h hs)
      clear hS hE hdiff hk hkk hfl
      generalize openS k n a t tag = RS at *
      generalize openE k n a t tag = RE at *
      generalize tagB k (firstB k n) a t = tg at *
      generalize streamB k (firstB k n) t = st at *
      generalize firstB k n = first at *
      have HDL := Lib.hid (diffN_lt tg tag)
      have HDN := Lib.hid (show ∀ i, diffN tg tag (i + 1) = diffN tg tag i ||| (byteF tg i ^^^ byteF tag i) from fun _ => rfl)
      have HD0 := Lib.hid (show diffN tg tag 0 = 0 from rfl)
      go_enter Tryz.func80, Tryz.ntmps80
      go_wp2_with fail
      refine Calls.mono HO.out ?_
      rintro _ W1 ⟨sb, rfl, hs, hb1⟩
      have HSS := Lib.hid hs
      have HB1 := Lib.hid hb1
      clear hs hb1 HO
      go_wp2_with fail
      refine Calls.mono (HTG.out sb W1 HSS.out) ?_
      rintro _ W2 ⟨rfl, hb2⟩
      have HSS2 := Lib.hid (HSB.out _ _ _ hb2 HSS.out)
      have HB2 := Lib.hid (HB1.out.trans (hb2.mono HB1.out.size))
      clear hb2 HSS HB1
      go_wp2
      go_loopw [14, 33] (fun s14 s33 wr => ∃ i d : Nat, i ≤ 16 ∧ s33 = .int .i64 i ∧ s14 = .int .u8 (d : Int) ∧ d = diffN tg tag i ∧ Below W2.heap.size W2 wr) (fun _ s _ => 16 - (intOf s).toNat)
      case atStart => exact ⟨0, 0, by omega, rfl, rfl, HD0.out.symm, Below.refl _ _⟩
      case round =>
        obtain ⟨i, d, hi, rfl, rfl, hd, hbel⟩ := hrel
        have hdl : d < 256 := by rw [hd]; exact HDL.out i
        have HD := Lib.hid hd
        clear hd
        by_cases hend : i = 16
        · have hlt : ¬ (i : Int) < 16 := by omega
          subst hend
          have HSS3 := Lib.hid (HSB.out _ _ _ hbel HSS2.out)
          by_cases hd0 : d = 0
          · have hb0 : ((d : Int) != 0) = false := by simp [hd0]
            have e1 := HS.out
            have e2 := HE.out
            rw [← HD.out, if_pos hd0] at e1 e2
            have E1 := Lib.hid e1
            have E2 := Lib.hid e2
            clear e1 e2 hd0
            go_wp2_with fail
            refine Calls.mono (HST.out sb wr HSS3.out) ?_
            rintro _ W5 ⟨rfl, hb5⟩
            have HB5 := Lib.hid ((HB2.out.trans (hbel.mono HB2.out.size)).trans (hb5.mono (HB2.out.trans (hbel.mono HB2.out.size)).size))
            clear hb5
            go_wp2
            exact bodyPost_ret (v := .tuple #[.string (B st), .int .i64 0]) (by simp [results, Tryz.results80, go_sem]) rfl ⟨by simp only [E1.out, E2.out]; rfl, HB5.out⟩
          · have hb0 : ((d : Int) != 0) = true := by simp; omega
            have e1 := HS.out
            have e2 := HE.out
            rw [← HD.out, if_neg hd0] at e1 e2
            have E1 := Lib.hid e1
            have E2 := Lib.hid e2
            clear e1 e2 hd0
            go_wp2
            exact bodyPost_ret (v := .tuple #[.string ⟨#[]⟩, .int .i64 7]) (by simp [results, Tryz.results80, go_sem]) rfl ⟨by simp only [E1.out, E2.out]; rfl, HB2.out.trans (hbel.mono HB2.out.size)⟩
        · have hlt : (i : Int) < 16 := by omega
          have g1 : i < tg.length := by omega
          have g2 : i < tag.length := by omega
          have x1 : ((tg[i].toNat : Nat) : Int) = ((byteF tg i : Nat) : Int) := by simp [byteF, List.getD, g1]
          have x2 : ((tag[i].toNat : Nat) : Int) = ((byteF tag i : Nat) : Int) := by simp [byteF, List.getD, g2]
          have b1 := byteF_lt tg i
          have b2 := byteF_lt tag i
          have hxx := u8_xor_nat _ _ b1 b2
          have hxl := Nat.xor_lt_two_pow (n := 8) b1 b2
          have HN := Lib.hid (HDN.out i)
          rw [← HD.out] at HN
          generalize byteF tg i = y1 at *
          generalize byteF tag i = y2 at *
          generalize y1 ^^^ y2 = y at *
          have hoo := u8_or_nat d y hdl hxl
          generalize d ||| y = z at *
          go_wp2
          go_region
          go_wp2
          go_round
          case rel => exact ⟨i + 1, z, by omega, by go_num, rfl, HN.out.symm, hbel.drew⟩
          case measure => simp [intOf]; omega
    · have hS : openS k n a t tag = [] := by
        unfold openS
        rw [if_neg]
        intro h
        exact h16 (by rw [← h.2, tagB_length])
      have hE : openE k n a t tag = 7 := by
        unfold openE
        rw [if_pos hk, if_neg]
        intro h
        exact h16 (by rw [← h, tagB_length])
      rw [hS, hE]
      have hb : ((tag.length : Int) != 16) = true := by simp; omega
      clear hS hE hk hkk hfl h16
      go_enter Tryz.func80, Tryz.ntmps80
      go_wp2_with fail
      refine Calls.mono HO.out ?_
      rintro _ W1 ⟨sb, rfl, hs, hb1⟩
      have HB1 := Lib.hid hb1
      clear hs hb1 HO
      go_wp2
      exact bodyPost_ret (v := .tuple #[.string ⟨#[]⟩, .int .i64 7]) (by simp [results, Tryz.results80, go_sem]) rfl ⟨rfl, HB1.out⟩
  · have h : ¬ keyOk k ∨ n.length < 8 ∨ 16 < n.length := by
      by_cases h1 : keyOk k
      · by_cases h2 : 8 ≤ n.length
        · by_cases h3 : n.length ≤ 16
          · exact absurd ⟨h1, h2, h3⟩ hk
          · exact .inr (.inr (by omega))
        · exact .inr (.inl (by omega))
      · exact .inl h1
    have HO := Lib.hid (open_none k n w h)
    have e1 : openS k n a t tag = [] := by rw [openS, if_neg fun h => hk h.1]
    have e2 : openE k n a t tag = 1 := by rw [openE, if_neg hk]
    rw [e1, e2]
    clear hk h e1 e2
    go_enter Tryz.func80, Tryz.ntmps80
    go_wp2_with fail
    refine Calls.ext HO.out fun u => ?_
    go_wp2
    exact bodyPost_ret (v := .tuple #[.string ⟨#[]⟩, .int .i64 1]) (by simp [results, Tryz.results80, go_sem]) rfl ⟨rfl, by ((repeat' (with_reducible first | exact Below.refl _ _ | assumption | refine Below.drew ?_ | refine below_drewN ?_ _ | refine Below.setCell ?_ ?_ _ | refine Below.alloc ?_ ?_ _ | refine Below.ext ?_ ?_ _ | refine Below.trans ?_ (Below.mono ‹_› ?_))) <;> first | omega | (simp; done) | (simp; omega))⟩
end Go.Proofs.YtlbpodddokhmaaaGreat.Gf
