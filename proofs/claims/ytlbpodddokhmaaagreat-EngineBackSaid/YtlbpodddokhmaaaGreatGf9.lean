/-
  The walk of gcm.open.
  Conditions: named at each.
-/
import Derived.Test.YtlbpodddokhmaaaGreatGf8
namespace Go.Proofs.YtlbpodddokhmaaaGreat.Gf
open Go.ChangeShapes Go.WideShapes Go.ChangeAt Go.RowKit Go.Deep
open Go.Proofs.YtlbpodddokhmaaaGreat.Aes (CipherAt stN wordsL subT subT_bytes)
/-- A key's rounds, its words, and a block done. -/
def rr (key : List UInt8) : Nat := key.length / 4 + 6
def ws (key : List UInt8) : List Nat := wordsL subT key (key.length / 4) (4 * (rr key + 1))
def E (key b : List UInt8) : List UInt8 := (stN (rr key) (ws key) b (rr key)).map UInt8.ofNat
theorem E_length (key b : List UInt8) : (E key b).length = 16 := by rw [E, List.length_map, Aes.stN_length]
def keyOk (key : List UInt8) : Prop := key.length = 16 ∨ key.length = 32
theorem New_any (key : List UInt8) (w : World) (h : keyOk key) : Calls Tryz.prog 91 #[.string (B key)] w fun e w' => e = .returned (.tuple #[.pointer (some ⟨w.heap.size, 0, none⟩), .int .i64 0]) ∧ CipherAt w' w.heap.size (rr key) (ws key) ∧ Below w.heap.size w w' := by
  unfold ws rr
  rcases h with h | h
  · rw [h]; exact Aes.New16 key w h
  · rw [h]; exact Aes.New32 key w h
theorem Do_any (key b : List UInt8) (cb : Nat) (w : World) (hk : keyOk key) (hb : b.length = 16) (hc : CipherAt w cb (rr key) (ws key)) : Calls Tryz.prog 92 #[.pointer (some ⟨cb, 0, none⟩), .string (B b)] w fun e w' => e = .returned (.string (B (E key b))) ∧ Below w.heap.size w w' :=
  Aes.Do_any b cb (rr key) (ws key) w hb hc (Aes.wordsL_bytes subT_bytes _ _ _) (by unfold rr; rcases hk with h | h <;> rw [h] <;> simp)
theorem cipher_below {w w' : World} {cb r : Nat} {l : List Nat} (h : Below w.heap.size w w') (hc : CipherAt w cb r l) : CipherAt w' cb r l := by
  obtain ⟨g, cap, Bk, h1, h2, h3, h4⟩ := hc
  refine ⟨g, cap, Bk, below_heap h (Aes.lt_of_heap h1) h1, h2, Nat.lt_of_lt_of_le h3 h.size, fun x hx => ?_⟩
  rw [h.cell (p := ⟨g, x, none⟩) h3]
  exact h4 x hx
/-- The first counter. -/
def firstB (key nonce : List UInt8) : List UInt8 := if nonce.length = 12 then nonce ++ [0, 0, 0, 1] else hashB (E key (Z 16)) [] nonce
theorem firstB_length (key nonce : List UInt8) : (firstB key nonce).length = 16 := by
  unfold firstB
  split
  · simp [*]
  · exact hashB_length _ _ _
/-- A sealer lies in memory. -/
def SealerAt (w : World) (sb : Nat) (key first : List UInt8) : Prop :=
  ∃ cb, w.heap[sb]? = some (.cells #[.pointer (some ⟨cb, 0, none⟩), .string (B (E key (Z 16))), .string (B first)] 131 (0, 0)) ∧ CipherAt w cb (rr key) (ws key)
set_option maxRecDepth 100000 in
theorem open_any (key nonce : List UInt8) (w : World) (hk : keyOk key) (hn : 8 ≤ nonce.length) (hn2 : nonce.length ≤ 16) : Calls Tryz.prog 83 #[.string (B key), .string (B nonce)] w fun e w' => ∃ sb, e = .returned (.tuple #[.pointer (some ⟨sb, 0, none⟩), .int .i64 0]) ∧ SealerAt w' sb key (firstB key nonce) ∧ Below w.heap.size w w' := by
  have HN := Lib.hid (New_any key w hk)
  have HK := Lib.hid hk
  clear hk
  go_enter Tryz.func83, Tryz.ntmps83
  go_wp2_with fail
  refine Calls.mono HN.out ?_
  rintro _ W1 ⟨rfl, hc, hb1⟩
  have HC := Lib.hid hc
  have HB1 := Lib.hid hb1
  clear hc hb1 HN
  have hn3 : (8 : Int) ≤ (nonce.length : Int) := by omega
  have hn4 : (nonce.length : Int) ≤ 16 := by omega
  go_wp2_with fail
  refine Calls.ext (Repeat_any 16 _ (by omega)) fun u1 => ?_
  go_wp2_with fail
  refine Calls.ext (Do_any key (Z 16) w.heap.size _ HK.out (Z_length 16) (cipher_below (ext_below W1 u1) HC.out)) fun u2 => ?_
  by_cases h12 : nonce.length = 12
  · have hf : firstB key nonce = nonce ++ [0, 0, 0, 1] := by rw [firstB, if_pos h12]
    have HF := Lib.hid hf
    clear hf
    go_wp2
    go_ret2
    refine ⟨_, rfl, ⟨w.heap.size, ?_, ?_⟩, ?_⟩
    · rw [HF.out]; exact heap_at (by simp)
    · exact cipher_below (by ((repeat' (with_reducible first | exact Below.refl _ _ | assumption | refine Below.drew ?_ | refine below_drewN ?_ _ | refine Below.setCell ?_ ?_ _ | refine Below.alloc ?_ ?_ _ | refine Below.ext ?_ ?_ _ | refine Below.trans ?_ (Below.mono ‹_› ?_))) <;> first | omega | (simp; done) | (simp; omega))) HC.out
    · exact HB1.out.trans (Below.mono (by ((repeat' (with_reducible first | exact Below.refl _ _ | assumption | refine Below.drew ?_ | refine below_drewN ?_ _ | refine Below.setCell ?_ ?_ _ | refine Below.alloc ?_ ?_ _ | refine Below.ext ?_ ?_ _ | refine Below.trans ?_ (Below.mono ‹_› ?_))) <;> first | omega | (simp; done) | (simp; omega))) HB1.out.size)
  · have hf : firstB key nonce = hashB (E key (Z 16)) [] nonce := by rw [firstB, if_neg h12]
    have HF := Lib.hid hf
    clear hf
    go_wp2_with fail
    refine Calls.ext (Hash_any (E key (Z 16)) [] nonce _ (E_length _ _) (by simp) (by omega)) fun u3 => ?_
    go_wp2
    go_ret2
    refine ⟨_, rfl, ⟨w.heap.size, ?_, ?_⟩, ?_⟩
    · rw [HF.out]; exact heap_ext (heap_at (by simp))
    · exact cipher_below (by ((repeat' (with_reducible first | exact Below.refl _ _ | assumption | refine Below.drew ?_ | refine below_drewN ?_ _ | refine Below.setCell ?_ ?_ _ | refine Below.alloc ?_ ?_ _ | refine Below.ext ?_ ?_ _ | refine Below.trans ?_ (Below.mono ‹_› ?_))) <;> first | omega | (simp; done) | (simp; omega))) HC.out
    · exact HB1.out.trans (Below.mono (by ((repeat' (with_reducible first | exact Below.refl _ _ | assumption | refine Below.drew ?_ | refine below_drewN ?_ _ | refine Below.setCell ?_ ?_ _ | refine Below.alloc ?_ ?_ _ | refine Below.ext ?_ ?_ _ | refine Below.trans ?_ (Below.mono ‹_› ?_))) <;> first | omega | (simp; done) | (simp; omega))) HB1.out.size)
theorem open_none (key nonce : List UInt8) (w : World) (h : ¬ keyOk key ∨ nonce.length < 8 ∨ 16 < nonce.length) : Calls Tryz.prog 83 #[.string (B key), .string (B nonce)] w fun e w' => e = .returned (.tuple #[.pointer none, .int .i64 1]) ∧ Below w.heap.size w w' := by
  by_cases hk : keyOk key
  · have HN := Lib.hid (New_any key w hk)
    have h2 : (nonce.length : Int) < 8 ∨ (8 ≤ (nonce.length : Int) ∧ 16 < (nonce.length : Int)) := by
      rcases h with h | h | h
      · exact absurd hk h
      · omega
      · omega
    clear hk h
    rcases h2 with h2 | ⟨h2, h3⟩
    all_goals
      go_enter Tryz.func83, Tryz.ntmps83
      go_wp2_with fail
      refine Calls.mono HN.out ?_
      rintro _ W1 ⟨rfl, hc, hb1⟩
      have HB1 := Lib.hid hb1
      clear hc hb1 HN
      go_wp2_with fail
      go_ret2
      exact ⟨rfl, HB1.out⟩
  · have h1 : ¬ key.length = 16 := fun e => hk (.inl e)
    have h2 : ¬ key.length = 32 := fun e => hk (.inr e)
    have HN := Lib.hid (Aes.New_none key w h1 h2)
    clear h h1 h2 hk
    go_enter Tryz.func83, Tryz.ntmps83
    go_wp2_with fail
    refine Calls.ext HN.out fun u => ?_
    go_wp2_with fail
    go_ret2
    exact ⟨rfl, by ((repeat' (with_reducible first | exact Below.refl _ _ | assumption | refine Below.drew ?_ | refine below_drewN ?_ _ | refine Below.setCell ?_ ?_ _ | refine Below.alloc ?_ ?_ _ | refine Below.ext ?_ ?_ _ | refine Below.trans ?_ (Below.mono ‹_› ?_))) <;> first | omega | (simp; done) | (simp; omega))⟩
end Go.Proofs.YtlbpodddokhmaaaGreat.Gf
