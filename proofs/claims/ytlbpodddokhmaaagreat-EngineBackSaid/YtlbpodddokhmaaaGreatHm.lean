/-
  HMAC: the walks of filled, turned, Sum, Same.
  Conditions: the package's numbers lie in memory.
-/
import Derived.Test.YtlbpodddokhmaaaGreatShaS
namespace Go.Proofs.YtlbpodddokhmaaaGreat.Hm
open Go.ChangeShapes Go.WideShapes Go.ChangeAt Go.RowKit Go.Deep
open Go.Proofs.YtlbpodddokhmaaaGreat.Sha (GlobAt)
open Go.Proofs.YtlbpodddokhmaaaGreat.Sha32 (byteF byteF_lt Z Z_length Repeat_any)
def RowAt (w : World) (b : Nat) (l : List Nat) : Prop := b < w.heap.size ∧ ∀ i, i < l.length → w.cell? ⟨b, i, none⟩ = some (.int .u8 ((l.getD i 0 : Nat) : Int)) ∧ w.frozen? ⟨b, i, none⟩ = false
theorem RowAt.set {w : World} {b : Nat} {l : List Nat} (h : RowAt w b l) (i v : Nat) (hi : i < l.length) : RowAt (w.setCell ⟨b, i, none⟩ (.int .u8 ((v : Nat) : Int))) b (l.set i v) := by
  refine ⟨?_, fun j hj => ?_⟩
  · have := h.1
    simpa [World.setCell] using this
  · rw [List.length_set] at hj
    rw [getD_set _ _ _ _ hi]
    constructor
    · by_cases e : j = i
      · subst e
        rw [if_pos rfl]
        exact World.cell?_setCell_same _ _ _ (h.2 j hj).1
      · rw [if_neg e]
        have hne : (⟨b, i, none⟩ : Addr) ≠ ⟨b, j, none⟩ := fun h2 => e (by injection h2 with _ h3 _; exact h3.symm)
        rw [show (w.setCell ⟨b, i, none⟩ (.int .u8 ((v : Nat) : Int))).cell? ⟨b, j, none⟩ = w.cell? ⟨b, j, none⟩ from World.cell?_setCell_other (h := hne) ..]
        exact (h.2 j hj).1
    · rw [World.frozen?_setCell]
      exact (h.2 j hj).2
def natL (x : List UInt8) : List Nat := tab (byteF x) x.length
theorem row_conv {P : Program} (w : World) (src dst e : TypeId) (x : List UInt8) (hs : P.underlying src = some .string) (hd : P.underlying dst = some (.slice e)) (he : P.underlying e = some (.int .u8)) :
    ∃ cap w', (convert src dst (.string (B x))).run P w = .ok (.slice (some ⟨w.heap.size, 0, none⟩) x.length cap) w' ∧ x.length ≤ cap ∧ Below w.heap.size w w' ∧ RowAt w' w.heap.size (natL x) := by
  obtain ⟨cap, w', h1, h2, h3, h4, h5, h6⟩ := bytes_conv (P := P) w src dst e x hs hd he
  refine ⟨cap, w', h1, h2, h3, by omega, fun i hi => ?_⟩
  rw [natL, tab_length] at hi
  rw [natL, tab_get _ _ _ hi]
  refine ⟨?_, h6 i hi⟩
  rw [h5 i hi]
  simp [byteF, List.getD, hi]
theorem natL_length (x : List UInt8) : (natL x).length = x.length := tab_length _ _
theorem u8_xor_nat (a b : Nat) (ha : a < 256) (hb : b < 256) : bits .xor .u8 (a : Int) (b : Int) = ((a ^^^ b : Nat) : Int) := by
  have h1 : ∀ n : Nat, n < 256 → (BitVec.ofInt 8 (n : Int)).toNat = n := fun n hn => by
    simp; omega
  show IntKind.u8.wrap ((BitVec.ofInt 8 (a : Int) ^^^ BitVec.ofInt 8 (b : Int)).toNat : Int) = _
  rw [BitVec.toNat_xor, h1 a ha, h1 b hb]
  have hx : a ^^^ b < 2 ^ 8 := Nat.xor_lt_two_pow (by omega) (by omega)
  generalize a ^^^ b = c at *
  simp [IntKind.wrap, IntKind.bits, IntKind.signed]
  omega
/-- How two blocks differ, up to byte i. -/
def diffN (x y : List UInt8) : Nat → Nat
  | 0 => 0
  | i + 1 => diffN x y i ||| (byteF x i ^^^ byteF y i)
theorem diffN_lt (x y : List UInt8) : ∀ i, diffN x y i < 256
  | 0 => by unfold diffN; omega
  | i + 1 => Nat.or_lt_two_pow (n := 8) (diffN_lt x y i) (Nat.xor_lt_two_pow (n := 8) (byteF_lt x i) (byteF_lt y i))
theorem or_zero {a b : Nat} (h : a ||| b = 0) : a = 0 ∧ b = 0 := by
  constructor
  · apply Nat.eq_of_testBit_eq
    intro i
    have := congrArg (fun n => n.testBit i) h
    simp at this
    simp [this.1]
  · apply Nat.eq_of_testBit_eq
    intro i
    have := congrArg (fun n => n.testBit i) h
    simp at this
    simp [this.2]
theorem diffN_zero (x y : List UInt8) : ∀ i, diffN x y i = 0 ↔ ∀ j, j < i → byteF x j = byteF y j
  | 0 => by simp [diffN]
  | i + 1 => by
    constructor
    · intro h j hj
      obtain ⟨h1, h2⟩ := or_zero (show diffN x y i ||| (byteF x i ^^^ byteF y i) = 0 from h)
      by_cases hji : j = i
      · subst hji
        have : byteF x j ^^^ byteF y j ^^^ byteF y j = 0 ^^^ byteF y j := by rw [h2]
        rw [Nat.xor_assoc, Nat.xor_self, Nat.xor_zero, Nat.zero_xor] at this
        exact this
      · exact (diffN_zero x y i).1 h1 j (by omega)
    · intro h
      rw [diffN, (diffN_zero x y i).2 fun j hj => h j (by omega), h i (by omega), Nat.xor_self]
      rfl
theorem byteF_ext {x y : List UInt8} (hl : x.length = y.length) (h : ∀ j, j < x.length → byteF x j = byteF y j) : x = y := by
  apply List.ext_getElem hl
  intro i h1 h2
  have := h i h1
  simp only [byteF, List.getD, List.getElem?_eq_getElem h1, List.getElem?_eq_getElem h2, Option.getD_some] at this
  exact UInt8.toNat_inj.1 this
theorem diff_eq {x y : List UInt8} (hx : x.length = y.length) : diffN x y x.length = 0 ↔ x = y := by
  rw [diffN_zero]
  constructor
  · intro h; exact byteF_ext hx h
  · intro h j _; rw [h]
theorem u8_or_nat (a b : Nat) (ha : a < 256) (hb : b < 256) : bits .or .u8 (a : Int) (b : Int) = ((a ||| b : Nat) : Int) := by
  have h1 : ∀ n : Nat, n < 256 → (BitVec.ofInt 8 (n : Int)).toNat = n := fun n hn => by
    simp; omega
  show IntKind.u8.wrap ((BitVec.ofInt 8 (a : Int) ||| BitVec.ofInt 8 (b : Int)).toNat : Int) = _
  rw [BitVec.toNat_or, h1 a ha, h1 b hb]
  have hx : a ||| b < 2 ^ 8 := Nat.or_lt_two_pow (by omega) (by omega)
  generalize a ||| b = c at *
  simp [IntKind.wrap, IntKind.bits, IntKind.signed]
  omega
def Good (size : Nat) : Prop := size = 256 ∨ size = 384 ∨ size = 512
def blkN (size : Nat) : Nat := if size = 256 then 64 else 128
def digest [Inhabited Go.Proofs.YtlbpodddokhmaaaGreat.Sha.Tabs] (size : Nat) (b : List UInt8) : List UInt8 := if size = 256 then Sha32.sumB 256 0 b else if size = 384 then Sha64.sumB 384 1 b else Sha64.sumB 512 0 b
theorem digest_length [Inhabited Go.Proofs.YtlbpodddokhmaaaGreat.Sha.Tabs] (size : Nat) (b : List UInt8) (h : Good size) : (digest size b).length = size / 8 := by
  rcases h with rfl | rfl | rfl
  · exact Sha32.sumB_length 256 0 b (by omega)
  · exact Sha64.sumB_length 384 1 b (by omega)
  · exact Sha64.sumB_length 512 0 b (by omega)
theorem Sum_any [Inhabited Go.Proofs.YtlbpodddokhmaaaGreat.Sha.Tabs] (size : Nat) (b : List UInt8) (w : World) (h : Good size) (hg : GlobAt w) (hb : b.length ≤ 1000000) : Calls Tryz.prog 88 #[.int .i64 size, .string (B b)] w fun e w' => e = .returned (.string (B (digest size b))) ∧ Below w.heap.size w w' := by
  rcases h with rfl | rfl | rfl
  · exact Sha.Sum_256 b w hg hb
  · exact Sha.Sum_384 b w hg hb
  · exact Sha.Sum_512 b w hg hb
theorem Block_any (size : Nat) (w : World) (h : Good size) : Calls Tryz.prog 86 #[.int .i64 size] w fun e w' => e = .returned (.int .i64 ((blkN size : Nat) : Int)) ∧ w = w' := by
  rcases h with rfl | rfl | rfl
  · exact Sha32.Block_any 256 w Sha.ok256
  · exact Sha64.Block_any 384 w Sha.ok384
  · exact Sha64.Block_any 512 w Sha.ok512
/-- A key, filled up to a block. -/
def fillK [Inhabited Go.Proofs.YtlbpodddokhmaaaGreat.Sha.Tabs] (size : Nat) (key : List UInt8) : List UInt8 :=
  let k := if blkN size < key.length then digest size key else key
  k ++ Z (blkN size - k.length)
theorem blk_bounds (size : Nat) (h : Good size) : 64 ≤ blkN size ∧ blkN size ≤ 128 ∧ size / 8 ≤ blkN size := by
  rcases h with rfl | rfl | rfl <;> decide
theorem fillK_length [Inhabited Go.Proofs.YtlbpodddokhmaaaGreat.Sha.Tabs] (size : Nat) (key : List UInt8) (h : Good size) : (fillK size key).length = blkN size := by
  have hb := blk_bounds size h
  have hd := digest_length size key h
  unfold fillK
  by_cases hk : blkN size < key.length
  · simp only [if_pos hk, List.length_append, Z_length]; omega
  · simp only [if_neg hk, List.length_append, Z_length]; omega
theorem filled_any [Inhabited Go.Proofs.YtlbpodddokhmaaaGreat.Sha.Tabs] (size : Nat) (key : List UInt8) (w : World) (h : Good size) (hg : GlobAt w) (hk : key.length ≤ 1000000) : Calls Tryz.prog 87 #[.int .i64 size, .string (B key)] w fun e w' => e = .returned (.string (B (fillK size key))) ∧ Below w.heap.size w w' := by
  have HB := Lib.hid fun W => Block_any size W h
  have HS := Lib.hid fun W hW => Sum_any size key W h hW hk
  have hbb := blk_bounds size h
  have hdl := digest_length size key h
  have HG := Lib.hid hg
  clear hg
  by_cases hlt : blkN size < key.length
  · have hf : fillK size key = digest size key ++ Z (blkN size - (digest size key).length) := by unfold fillK; simp only [if_pos hlt]
    have HF := Lib.hid hf
    clear hf h
    generalize blkN size = bn at *
    generalize fillK size key = res at *
    generalize digest size key = dg at *
    have hlti : (bn : Int) < (key.length : Int) := by omega
    have hz : (bn : Int) - (dg.length : Int) = ((bn - dg.length : Nat) : Int) := by omega
    have HR := Lib.hid (show ∀ W, Calls Tryz.prog 93 #[.string ⟨#[0]⟩, .int .i64 ((bn - dg.length : Nat) : Int)] W fun e w' => e = .returned (.string (B (Z (bn - dg.length)))) ∧ Below W.heap.size W w' from fun W => Repeat_any _ W (by omega))
    have hzl := Z_length (bn - dg.length)
    obtain ⟨z, hzz⟩ : ∃ z, z = bn - dg.length := ⟨_, rfl⟩
    rw [← hzz] at HR HF hz hzl
    have hcat : ¬ 9223372036854775807 < dg.length + (Z z).length := by omega
    have HZZ := Lib.hid hzz
    have HDL := Lib.hid hdl
    clear hzz hdl hlt hzl
    go_enter Tryz.func87, Tryz.ntmps87
    go_wp2_with fail
    refine Calls.mono (HB.out _) ?_
    rintro _ _ ⟨rfl, rfl⟩
    go_wp2_with fail
    refine Calls.ext (HS.out _ HG.out) fun u1 => ?_
    go_wp2_with fail
    refine Calls.ext (HR.out _) fun u2 => ?_
    go_wp2
    go_ret
    exact ⟨by rw [HF.out]; rfl, by ((repeat' (with_reducible first | exact Below.refl _ _ | assumption | refine Below.drew ?_ | refine below_drewN ?_ _ | refine Below.setCell ?_ ?_ _ | refine Below.alloc ?_ ?_ _ | refine Below.ext ?_ ?_ _ | refine Below.trans ?_ (Below.mono ‹_› ?_))) <;> first | omega | (simp; done) | (simp; omega))⟩
  · have hf : fillK size key = key ++ Z (blkN size - key.length) := by unfold fillK; simp only [if_neg hlt]
    have HF := Lib.hid hf
    clear hf h
    generalize blkN size = bn at *
    generalize fillK size key = res at *
    have hlti : ¬ (bn : Int) < (key.length : Int) := by omega
    have HR := Lib.hid (show ∀ W, Calls Tryz.prog 93 #[.string ⟨#[0]⟩, .int .i64 ((bn - key.length : Nat) : Int)] W fun e w' => e = .returned (.string (B (Z (bn - key.length)))) ∧ Below W.heap.size W w' from fun W => Repeat_any _ W (by omega))
    have hzl := Z_length (bn - key.length)
    obtain ⟨z, hzz⟩ : ∃ z, z = bn - key.length := ⟨_, rfl⟩
    have hz : (bn : Int) - (key.length : Int) = (z : Int) := by omega
    rw [← hzz] at HR HF hzl
    have hcat : ¬ 9223372036854775807 < key.length + (Z z).length := by omega
    have HZZ := Lib.hid hzz
    clear hzz hdl hlt hzl
    go_enter Tryz.func87, Tryz.ntmps87
    go_wp2_with fail
    refine Calls.mono (HB.out _) ?_
    rintro _ _ ⟨rfl, rfl⟩
    go_wp2_with fail
    refine Calls.ext (HR.out _) fun u2 => ?_
    go_wp2
    go_ret
    exact ⟨by rw [HF.out]; rfl, by ((repeat' (with_reducible first | exact Below.refl _ _ | assumption | refine Below.drew ?_ | refine below_drewN ?_ _ | refine Below.setCell ?_ ?_ _ | refine Below.alloc ?_ ?_ _ | refine Below.ext ?_ ?_ _ | refine Below.trans ?_ (Below.mono ‹_› ?_))) <;> first | omega | (simp; done) | (simp; omega))⟩
def turnF (s : List UInt8) (c i : Nat) : Nat := byteF s i ^^^ c
def turnB (s : List UInt8) (c : Nat) : List UInt8 := (tab (turnF s c) s.length).map UInt8.ofNat
theorem turnB_length (s : List UInt8) (c : Nat) : (turnB s c).length = s.length := by rw [turnB, List.length_map, tab_length]
set_option maxRecDepth 100000 in
theorem turned_any (s : List UInt8) (c : Nat) (w : World) (hc : c < 256) (hsl : s.length ≤ 1000000) : Calls Tryz.prog 89 #[.string (B s), .int .u8 (c : Int)] w fun e w' => e = .returned (.string (B (turnB s c))) ∧ Below w.heap.size w w' := by
  obtain ⟨cap, w1, hconv, hcap, hb1, hrow⟩ := row_conv (P := Tryz.prog) w 9 73 5 s Tryz.underlying9 Tryz.underlying73 Tryz.underlying5
  have HB1 := Lib.hid hb1
  have HROW := Lib.hid hrow
  clear hb1 hrow hcap
  go_enter Tryz.func89, Tryz.ntmps89
  go_wp2
  go_loopw [11] (fun s11 wr => ∃ (i : Nat) (l : List Nat), i ≤ s.length ∧ s11 = .int .i64 i ∧ l = fillN (turnF s c) (natL s) i ∧ RowAt wr w.heap.size l ∧ Below w.heap.size w wr) (fun a _ => s.length - (intOf a).toNat)
  case atStart => exact ⟨0, natL s, by omega, rfl, rfl, HROW.out, HB1.out⟩
  case round =>
    obtain ⟨i, l, hi, rfl, hl, hrow, hbel⟩ := hrel
    have hll : l.length = s.length := by rw [hl, fillN_length, natL_length]
    have HL := Lib.hid hl
    have HR := Lib.hid hrow
    have HBL := Lib.hid hbel
    clear hl hrow hbel
    by_cases hend : i = s.length
    · have hlt : ¬ (i : Int) < (s.length : Int) := by omega
      have hst := string_of (P := Tryz.prog) wr 73 9 5 ⟨w.heap.size, 0, none⟩ s.length cap l Tryz.underlying73 Tryz.underlying5 Tryz.underlying9 hll (fun j hj => by
        have e1 : (⟨w.heap.size, 0, none⟩ : Addr).add j = ⟨w.heap.size, j, none⟩ := by simp [Addr.add]; omega
        rw [e1]; exact (HR.out.2 j (by omega)).1)
      have hres : NB l = B (turnB s c) := by
        rw [HL.out, hend, fillN_full _ (natL_length s)]; rfl
      rw [hres] at hst
      clear hend hres
      have HE : ∃ r, r = turnB s c := ⟨_, rfl⟩
      obtain ⟨res, hres⟩ := HE
      have HRES := Lib.hid hres
      rw [← hres] at hst
      clear hres
      go_wp2
      go_ret
      exact ⟨by rw [← HRES.out]; rfl, HBL.out⟩
    · have hlt : (i : Int) < (s.length : Int) := by omega
      have hlx : i < s.length := by omega
      have hc1 := (HR.out.2 i (by omega)).1
      have hf := (HR.out.2 i (by omega)).2
      have hlv : l.getD i 0 = byteF s i := by
        rw [HL.out, fillN_get _ _ _ _ (by rw [natL_length]; omega), if_neg (by omega), natL, tab_get _ _ _ hlx]
      rw [hlv] at hc1
      have hx := u8_xor_nat _ _ (byteF_lt s i) hc
      have HTF := Lib.hid (show turnF s c i = byteF s i ^^^ c from rfl)
      generalize byteF s i ^^^ c = z at *
      generalize byteF s i = v at *
      have hws : w.heap.size < wr.heap.size := HR.out.1
      go_wp2
      go_round
      case rel =>
        refine ⟨i + 1, l.set i z, by omega, by go_num, by rw [fillN, ← HL.out, HTF.out], HR.out.set i _ (by omega), ?_⟩
        exact HBL.out.setCell (show w.heap.size ≤ (⟨w.heap.size, i, none⟩ : Addr).block from Nat.le_refl _) _
      case measure => simp [intOf]; omega
/-- A text's code. -/
def hmacB [Inhabited Go.Proofs.YtlbpodddokhmaaaGreat.Sha.Tabs] (size : Nat) (key t : List UInt8) : List UInt8 := digest size (turnB (fillK size key) 92 ++ digest size (turnB (fillK size key) 54 ++ t))
theorem hmacB_length [Inhabited Go.Proofs.YtlbpodddokhmaaaGreat.Sha.Tabs] (size : Nat) (key t : List UInt8) (h : Good size) : (hmacB size key t).length = size / 8 := digest_length _ _ h
set_option maxRecDepth 100000 in
theorem hmac_any [Inhabited Go.Proofs.YtlbpodddokhmaaaGreat.Sha.Tabs] (size : Nat) (key t : List UInt8) (parts : Value) (w : World) (h : Good size) (hg : GlobAt w) (hk : key.length ≤ 1000000) (ht : t.length ≤ 900000)
    (hj : ∀ W, Below w.heap.size w W → Calls Tryz.prog 90 #[parts, .string ⟨#[]⟩] W fun e w' => e = .returned (.string (B t)) ∧ Below W.heap.size W w') :
    Calls Tryz.prog 82 #[.int .i64 size, .string (B key), parts] w fun e w' => e = .returned (.string (B (hmacB size key t))) ∧ Below w.heap.size w w' := by
  have hbb := blk_bounds size h
  have hfl := fillK_length size key h
  have HB := Lib.hid fun W => Block_any size W h
  have HF := Lib.hid fun W hW => filled_any size key W h hW hk
  have HT1 := Lib.hid (show ∀ W, Calls Tryz.prog 89 #[.string (B (fillK size key)), .int .u8 92] W fun e w' => e = .returned (.string (B (turnB (fillK size key) 92))) ∧ Below W.heap.size W w' from fun W => turned_any _ 92 W (by omega) (by omega))
  have HT2 := Lib.hid (show ∀ W, Calls Tryz.prog 89 #[.string (B (fillK size key)), .int .u8 54] W fun e w' => e = .returned (.string (B (turnB (fillK size key) 54))) ∧ Below W.heap.size W w' from fun W => turned_any _ 54 W (by omega) (by omega))
  have hl1 := turnB_length (fillK size key) 92
  have hl2 := turnB_length (fillK size key) 54
  have HS := Lib.hid fun b W hb hW => Sum_any size b W h hW hb
  have hdl := digest_length size (turnB (fillK size key) 54 ++ t) h
  have HM := Lib.hid (show hmacB size key t = digest size (turnB (fillK size key) 92 ++ digest size (turnB (fillK size key) 54 ++ t)) from rfl)
  have HJ := Lib.hid hj
  have HG := Lib.hid hg
  have hbn0 : (((blkN size : Nat) : Int) == 0) = false := by simp; omega
  clear hj hg
  generalize hmacB size key t = res at *
  generalize turnB (fillK size key) 92 = o at *
  generalize turnB (fillK size key) 54 = i at *
  generalize fillK size key = fk at *
  generalize blkN size = bn at *
  have hcat1 : ¬ 9223372036854775807 < i.length + t.length := by omega
  have hb1 : (i ++ t).length ≤ 1000000 := by rw [List.length_append]; omega
  have HS1 := Lib.hid fun W hW => HS.out (i ++ t) W hb1 hW
  generalize digest size (i ++ t) = d1 at *
  have hcat2 : ¬ 9223372036854775807 < o.length + d1.length := by omega
  have hb2 : (o ++ d1).length ≤ 1000000 := by rw [List.length_append]; omega
  have HS2 := Lib.hid fun W hW => HS.out (o ++ d1) W hb2 hW
  generalize digest size (o ++ d1) = d2 at *
  clear HS hb1 hb2 hdl hl1 hl2 hfl hbb h
  go_enter Tryz.func82, Tryz.ntmps82
  go_wp2_with fail
  refine Calls.mono (HB.out _) ?_
  rintro _ _ ⟨rfl, rfl⟩
  go_wp2_with fail
  refine Calls.ext (HF.out _ HG.out) fun u1 => ?_
  go_wp2_with fail
  refine Calls.ext (HT1.out _) fun u2 => ?_
  go_wp2_with fail
  refine Calls.ext (HT2.out _) fun u3 => ?_
  go_wp2_with fail
  refine Calls.ext (HJ.out _ (ext_below _ _)) fun u4 => ?_
  go_wp2_with fail
  refine Calls.ext (HS1.out _ (HG.out.below (ext_below _ _))) fun u5 => ?_
  go_wp2_with fail
  refine Calls.ext (HS2.out _ (HG.out.below (ext_below _ _))) fun u6 => ?_
  go_wp2
  go_ret
  exact ⟨by rw [HM.out]; rfl, by ((repeat' (with_reducible first | exact Below.refl _ _ | assumption | refine Below.drew ?_ | refine below_drewN ?_ _ | refine Below.setCell ?_ ?_ _ | refine Below.alloc ?_ ?_ _ | refine Below.ext ?_ ?_ _ | refine Below.trans ?_ (Below.mono ‹_› ?_))) <;> first | omega | (simp; done) | (simp; omega))⟩
set_option maxRecDepth 100000 in
theorem Same_any (a b : List UInt8) (w : World) (ha : a.length ≤ 1000000) (_hb : b.length ≤ 1000000) : Calls Tryz.prog 79 #[.string (B a), .string (B b)] w fun e w' => e = .returned (.bool (decide (a = b))) ∧ Below w.heap.size w w' := by
  by_cases hl : a.length = b.length
  · have hdiff := diff_eq hl
    have HD := Lib.hid (show decide (a = b) = decide (diffN a b a.length = 0) from decide_eq_decide.2 hdiff.symm)
    have HDL := Lib.hid (diffN_lt a b)
    have HDN := Lib.hid (show ∀ i, diffN a b (i + 1) = diffN a b i ||| (byteF a i ^^^ byteF b i) from fun _ => rfl)
    have HD0 := Lib.hid (show diffN a b 0 = 0 from rfl)
    have hne : ((a.length : Int) != (b.length : Int)) = false := by simp [hl]
    have HL := Lib.hid hl
    clear hdiff hl
    go_enter Tryz.func79, Tryz.ntmps79
    go_wp2
    go_loopw [5, 14] (fun s5 s14 wr => ∃ i d : Nat, i ≤ a.length ∧ s14 = .int .i64 i ∧ s5 = .int .u8 (d : Int) ∧ d = diffN a b i ∧ Below w.heap.size w wr) (fun _ s _ => a.length - (intOf s).toNat)
    case atStart => exact ⟨0, 0, by omega, rfl, rfl, HD0.out.symm, Below.refl _ _⟩
    case round =>
      obtain ⟨i, d, hi, rfl, rfl, hd, hbel⟩ := hrel
      have hdl : d < 256 := by rw [hd]; exact HDL.out i
      have HDD := Lib.hid hd
      clear hd
      by_cases hend : i = a.length
      · have hlt : ¬ (i : Int) < (a.length : Int) := by omega
        have hE : decide (a = b) = ((d : Int) == 0) := by
          rw [HD.out, ← hend, ← HDD.out]
          by_cases h0 : d = 0
          · simp [h0]
          · simp [h0]
        have HE := Lib.hid hE
        clear hE hend
        go_wp2
        go_ret
        exact ⟨by rw [HE.out]; rfl, hbel⟩
      · have hlt : (i : Int) < (a.length : Int) := by omega
        have hl := HL.out
        have g1 : i < a.length := by omega
        have g2 : i < b.length := by omega
        have g2i : (i : Int) < (b.length : Int) := by omega
        have x1 : ((a[i].toNat : Nat) : Int) = ((byteF a i : Nat) : Int) := by simp [byteF, List.getD, g1]
        have x2 : ((b[i].toNat : Nat) : Int) = ((byteF b i : Nat) : Int) := by simp [byteF, List.getD, g2]
        have b1 := byteF_lt a i
        have b2 := byteF_lt b i
        have hxx := u8_xor_nat _ _ b1 b2
        have hxl := Nat.xor_lt_two_pow (n := 8) b1 b2
        have HN := Lib.hid (HDN.out i)
        rw [← HDD.out] at HN
        generalize byteF a i = y1 at *
        generalize byteF b i = y2 at *
        generalize y1 ^^^ y2 = y at *
        have hoo := u8_or_nat d y hdl hxl
        generalize d ||| y = z at *
        clear hl
        go_wp2
        go_region
        go_wp2
        go_round
        case rel => exact ⟨i + 1, z, by omega, by go_num, rfl, HN.out.symm, hbel.drew⟩
        case measure => simp [intOf]; omega
  · have hE : decide (a = b) = false := decide_eq_false fun h => hl (by rw [h])
    rw [hE]
    have hne : ((a.length : Int) != (b.length : Int)) = true := by simp; omega
    clear hE hl
    go_enter Tryz.func79, Tryz.ntmps79
    go_wp2
    go_ret
    exact ⟨rfl, Below.refl _ _⟩
end Go.Proofs.YtlbpodddokhmaaaGreat.Hm
