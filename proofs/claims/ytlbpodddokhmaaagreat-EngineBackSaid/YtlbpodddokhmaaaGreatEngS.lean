/-
  An engine, real or ideal, as its users see it: one contract for both, whatever sha's tables hold.
  Conditions: named at each.
-/
import Derived.Test.YtlbpodddokhmaaaGreatEngR1
import Derived.Test.YtlbpodddokhmaaaGreatEngR2
namespace Go.Proofs.YtlbpodddokhmaaaGreat.EngS
open Go.ChangeShapes Go.WideShapes Go.ChangeAt Go.RowKit Go.Deep Go.Proofs.YtlbpodddokhmaaaGreat.Eng
open Go.Proofs.YtlbpodddokhmaaaGreat.Sha (GlobAt)
open Go.Proofs.YtlbpodddokhmaaaGreat.Hm (hmacB)
open Go.Proofs.YtlbpodddokhmaaaGreat.EngX (Ent TabE TabAt matchH matchO)
open Go.Proofs.YtlbpodddokhmaaaGreat.Gf (sealB tagB firstB)
/-- What an engine holds: a real one nothing, an ideal one its entries. -/
abbrev St := Option (List Ent)
def At [Inhabited Go.Proofs.YtlbpodddokhmaaaGreat.Sha.Tabs] (W : World) (base eb : Nat) : St → Prop
  | none => GlobAt W ∧ W.cell? ⟨eb, 0, none⟩ = some (.iface 51 (.agg #[])) ∧ base ≤ eb
  | some es => ∃ ib v, W.cell? ⟨eb, 0, none⟩ = some (.iface 56 (.pointer (some ⟨ib, 0, none⟩))) ∧ TabE W (eb + 1) ib v es ∧ base ≤ ib ∧ ib < eb
def few (s : St) (n : Nat) : Prop := match s with | none => True | some es => es.length ≤ n
def signsB (vr : Int) (key : List UInt8) : Bool := decide (0 < Eng.bits vr) && decide (1 ≤ key.length) && decide (key.length ≤ 64)
def sealsB (vr : Int) (key nonce : List UInt8) : Bool := decide (0 < Eng.keyBytes vr) && decide ((key.length : Int) = Eng.keyBytes vr) && decide (8 ≤ nonce.length) && decide (nonce.length ≤ 16)
def signEnt (n : Nat) (vr : Int) (key t : List UInt8) : Ent := ⟨vr, key, [], [], t, [], freshB (n + 1) (size vr).toNat⟩
def sealEnt (n : Nat) (vr : Int) (key nonce wth t : List UInt8) : Ent := ⟨vr, key, nonce, wth, t, freshB (n + 1) t.length, freshB (n + 1) (size vr).toNat⟩
def tagS [Inhabited Go.Proofs.YtlbpodddokhmaaaGreat.Sha.Tabs] (s : St) (vr : Int) (key t : List UInt8) : List UInt8 := match s with | none => hmacB (Eng.bits vr).toNat key t | some es => freshB (es.length + 1) (size vr).toNat
def signS (s : St) (vr : Int) (key t : List UInt8) : St := match s with | none => none | some es => some (es ++ [signEnt es.length vr key t])
def madeS (s : St) (key nonce t : List UInt8) : List UInt8 := match s with | none => sealB key nonce t | some es => freshB (es.length + 1) t.length
def stagS (s : St) (vr : Int) (key nonce wth t : List UInt8) : List UInt8 := match s with | none => tagB key (firstB key nonce) wth (sealB key nonce t) | some es => freshB (es.length + 1) (size vr).toNat
def sealS (s : St) (vr : Int) (key nonce wth t : List UInt8) : St := match s with | none => none | some es => some (es ++ [sealEnt es.length vr key nonce wth t])
/-- What holds. -/
def Held [Inhabited Go.Proofs.YtlbpodddokhmaaaGreat.Sha.Tabs] (s : St) (vr : Int) (key t tag : List UInt8) : Prop := match s with | none => tag = hmacB (Eng.bits vr).toNat key t | some es => es.any (matchH vr key t tag) = true
/-- What is opened. -/
def Opens (s : St) (vr : Int) (key nonce wth t made tag : List UInt8) : Prop := match s with | none => made = sealB key nonce t ∧ tag = tagB key (firstB key nonce) wth (sealB key nonce t) | some es => ∃ e, es.find? (matchO vr key nonce wth made tag) = some e ∧ e.t = t
/-- Nothing was sealed. -/
def NoSeal (s : St) : Prop := match s with | none => True | some es => ∀ e ∈ es, e.nn = []
theorem held_sign [Inhabited Go.Proofs.YtlbpodddokhmaaaGreat.Sha.Tabs] (s : St) (vr : Int) (key t : List UInt8) : Held (signS s vr key t) vr key t (tagS s vr key t) := by
  cases s with
  | none => exact rfl
  | some es => show (es ++ [_]).any _ = true; rw [List.any_append]; simp [matchH, signEnt, tagS]
theorem held_more_sign [Inhabited Go.Proofs.YtlbpodddokhmaaaGreat.Sha.Tabs] {s : St} {vr : Int} {key t tag : List UInt8} (h : Held s vr key t tag) (vr' : Int) (key' t' : List UInt8) : Held (signS s vr' key' t') vr key t tag := by
  cases s with
  | none => exact h
  | some es => show (es ++ [_]).any _ = true; rw [List.any_append]; have h2 : es.any (matchH vr key t tag) = true := h; simp [h2]
theorem held_more_seal [Inhabited Go.Proofs.YtlbpodddokhmaaaGreat.Sha.Tabs] {s : St} {vr : Int} {key t tag : List UInt8} (h : Held s vr key t tag) (vr' : Int) (key' n' w' t' : List UInt8) : Held (sealS s vr' key' n' w' t') vr key t tag := by
  cases s with
  | none => exact h
  | some es => show (es ++ [_]).any _ = true; rw [List.any_append]; have h2 : es.any (matchH vr key t tag) = true := h; simp [h2]
theorem opens_seal {s : St} (h : NoSeal s) (vr : Int) (key nonce wth t : List UInt8) (hn : 8 ≤ nonce.length) : Opens (sealS s vr key nonce wth t) vr key nonce wth t (madeS s key nonce t) (stagS s vr key nonce wth t) := by
  cases s with
  | none => exact ⟨rfl, rfl⟩
  | some es =>
    have h2 : ∀ e ∈ es, e.nn = [] := h
    refine ⟨sealEnt es.length vr key nonce wth t, ?_, rfl⟩
    show (es ++ [_]).find? _ = _
    rw [List.find?_append, List.find?_eq_none.2 (fun e he => by
      have := h2 e he
      simp only [matchO, decide_eq_true_eq]
      rintro ⟨_, _, h3, _⟩
      rw [this] at h3
      rw [← h3] at hn
      simp at hn)]
    simp [matchO, sealEnt, madeS, stagS, List.find?]
theorem opens_more_sign {s : St} {vr : Int} {key nonce wth t made tag : List UInt8} (h : Opens s vr key nonce wth t made tag) (vr' : Int) (key' t' : List UInt8) : Opens (signS s vr' key' t') vr key nonce wth t made tag := by
  cases s with
  | none => exact h
  | some es => obtain ⟨e, h1, h2⟩ := h; exact ⟨e, by show (es ++ [_]).find? _ = _; rw [List.find?_append, h1]; rfl, h2⟩
theorem opens_more_seal {s : St} {vr : Int} {key nonce wth t made tag : List UInt8} (h : Opens s vr key nonce wth t made tag) (vr' : Int) (key' n' w' t' : List UInt8) : Opens (sealS s vr' key' n' w' t') vr key nonce wth t made tag := by
  cases s with
  | none => exact h
  | some es => obtain ⟨e, h1, h2⟩ := h; exact ⟨e, by show (es ++ [_]).find? _ = _; rw [List.find?_append, h1]; rfl, h2⟩
theorem noseal_sign {s : St} (h : NoSeal s) (vr : Int) (key t : List UInt8) : NoSeal (signS s vr key t) := by
  cases s with
  | none => trivial
  | some es =>
    intro e he
    rcases List.mem_append.1 he with h1 | h1
    · exact h e h1
    · rw [List.mem_singleton] at h1; rw [h1]; rfl
theorem few_sign {s : St} {n : Nat} (h : few s n) (vr : Int) (key t : List UInt8) : few (signS s vr key t) (n + 1) := by
  cases s with
  | none => trivial
  | some es => show (es ++ [_]).length ≤ n + 1; have h2 : es.length ≤ n := h; simp; omega
theorem few_seal {s : St} {n : Nat} (h : few s n) (vr : Int) (key nonce wth t : List UInt8) : few (sealS s vr key nonce wth t) (n + 1) := by
  cases s with
  | none => trivial
  | some es => show (es ++ [_]).length ≤ n + 1; have h2 : es.length ≤ n := h; simp; omega
theorem few_le {s : St} {n m : Nat} (h : few s n) (hm : n ≤ m) : few s m := by
  cases s with
  | none => trivial
  | some es => exact Nat.le_trans h hm
theorem At.below [Inhabited Go.Proofs.YtlbpodddokhmaaaGreat.Sha.Tabs] {W W' : World} {base eb : Nat} {s : St} (h : At W base eb s) (hb : Below W.heap.size W W') : At W' base eb s := by
  cases s with
  | none =>
    obtain ⟨h1, h2, h3⟩ := h
    exact ⟨h1.below hb, by rw [hb.cell (p := ⟨eb, 0, none⟩) (World.block_lt_of_cell? W ⟨eb, 0, none⟩ h2)]; exact h2, h3⟩
  | some es =>
    obtain ⟨ib, v, h1, h2, h3, h4⟩ := h
    exact ⟨ib, v, by rw [hb.cell (p := ⟨eb, 0, none⟩) (World.block_lt_of_cell? W ⟨eb, 0, none⟩ h1)]; exact h1, EngX.TabAt.below h2 hb, h3, h4⟩
theorem At.lt [Inhabited Go.Proofs.YtlbpodddokhmaaaGreat.Sha.Tabs] {W : World} {base eb : Nat} {s : St} (h : At W base eb s) : base ≤ eb ∧ eb < W.heap.size := by
  cases s with
  | none => obtain ⟨_, h2, h3⟩ := h; exact ⟨h3, World.block_lt_of_cell? W ⟨eb, 0, none⟩ h2⟩
  | some es => obtain ⟨ib, v, h1, _, h3, h4⟩ := h; exact ⟨by omega, World.block_lt_of_cell? W ⟨eb, 0, none⟩ h1⟩
theorem bits_good {vr : Int} (h : 0 < Eng.bits vr) : Eng.bits vr = ((Eng.bits vr).toNat : Int) ∧ Hm.Good (Eng.bits vr).toNat := by
  unfold Eng.bits at *
  split
  · exact ⟨rfl, .inl rfl⟩
  · split
    · exact ⟨rfl, .inr (.inl rfl)⟩
    · split
      · exact ⟨rfl, .inr (.inr rfl)⟩
      · rename_i h1 h2 h3
        rw [if_neg h1, if_neg h2, if_neg h3] at h
        omega
theorem size_good (vr : Int) : size vr = ((size vr).toNat : Int) ∧ (size vr).toNat ≤ 100 := by
  unfold size
  repeat' split
  all_goals decide
theorem key_good {vr : Int} (h : 0 < Eng.keyBytes vr) : Eng.keyBytes vr = ((Eng.keyBytes vr).toNat : Int) ∧ ((Eng.keyBytes vr).toNat = 16 ∨ (Eng.keyBytes vr).toNat = 32) := by
  unfold Eng.keyBytes at *
  split
  · exact ⟨rfl, .inl rfl⟩
  · split
    · exact ⟨rfl, .inr rfl⟩
    · rename_i h1 h2
      rw [if_neg h1, if_neg h2] at h
      omega
theorem signs_true {vr : Int} {key : List UInt8} (h : signsB vr key = true) : 0 < Eng.bits vr ∧ key.isEmpty = false ∧ (key.length : Int) ≤ 64 := by
  simp only [signsB, Bool.and_eq_true, decide_eq_true_eq] at h
  refine ⟨h.1.1, ?_, by omega⟩
  rw [List.isEmpty_eq_false_iff]
  intro e
  rw [e] at h
  simp at h
theorem seals_true {vr : Int} {key nonce : List UInt8} (h : sealsB vr key nonce = true) : 0 < Eng.keyBytes vr ∧ (key.length : Int) = Eng.keyBytes vr ∧ 8 ≤ nonce.length ∧ nonce.length ≤ 16 := by
  simp only [sealsB, Bool.and_eq_true, decide_eq_true_eq] at h
  exact ⟨h.1.1.1, h.1.1.2, h.1.2, h.2⟩
theorem ent_push (es : List Ent) (x : Ent) : (es ++ [x]).flatMap Ent.cells = es.flatMap Ent.cells ++ x.cells := by
  rw [List.flatMap_append]; simp [List.flatMap]
/-- One entry more. -/
theorem at_more [Inhabited Go.Proofs.YtlbpodddokhmaaaGreat.Sha.Tabs] {W W' : World} {base eb ib : Nat} {v : Value} {es : List Ent} {x : Ent} (h1 : W.cell? ⟨eb, 0, none⟩ = some (.iface 56 (.pointer (some ⟨ib, 0, none⟩)))) (h2 : TabE W (eb + 1) ib v es) (h3 : base ≤ ib) (h4 : ib < eb)
    (h : EngX.OneMore W W' (eb + 1) ib v es.length (es.flatMap Ent.cells ++ x.cells)) : At W' base eb (some (es ++ [x])) ∧ Below base W W' := by
  obtain ⟨v', hT, hk, _⟩ := h
  have hlt := EngX.TabAt.lt h2
  have heb := World.block_lt_of_cell? W ⟨eb, 0, none⟩ h1
  simp only at heb
  refine ⟨⟨ib, v', ?_, ?_, h3, h4⟩, hk.below (Below.refl base W) (by omega) h3 fun k hk2 => by have := (hlt k hk2).1; omega⟩
  · rw [World.cell?_of_block (hk.block eb heb (by omega) fun e => by have := (hlt eb e).1; omega)]
    exact h1
  · show TabAt W' (eb + 1) ib v' (es ++ [x]).length ((es ++ [x]).flatMap Ent.cells)
    rw [List.length_append, ent_push]
    exact hT
theorem sign_st [Inhabited Go.Proofs.YtlbpodddokhmaaaGreat.Sha.Tabs] (base eb : Nat) (s : St) (vr : Int) (key t : List UInt8) (w : World) (hA : At w base eb s) (hn : few s 900) (hs : signsB vr key = true) (ht : t.length ≤ 1000) :
    Calls Tryz.prog 10 #[.pointer (some ⟨eb, 0, none⟩), .int .i64 vr, .string (B key), .string (B t)] w fun e w' => e = .returned (.tuple #[.string (B (tagS s vr key t)), .int .i64 0]) ∧ At w' base eb (signS s vr key t) ∧ Below base w w' := by
  obtain ⟨s1, s2, s3⟩ := signs_true hs
  obtain ⟨g1, g2⟩ := bits_good s1
  obtain ⟨z1, z2⟩ := size_good vr
  have hlt := hA.lt
  cases s with
  | none =>
    obtain ⟨hg, he, hbe⟩ := hA
    refine (EngR.RSign_any eb vr _ key t w he hg g1 g2 s2 s3 (by omega)).mono fun e w' ⟨h1, h2⟩ => ⟨h1, ?_, h2.mono (by omega)⟩
    exact At.below (s := none) ⟨hg, he, hbe⟩ h2
  | some es =>
    obtain ⟨ib, v, h1, h2, h3, h4⟩ := hA
    have hn2 : es.length ≤ 900 := hn
    refine (EngX.Sign_any eb (eb + 1) ib es.length _ v _ vr key t w h1 h2 z1 (by omega) z2 (by omega) (by omega) s1 s2 s3).mono fun e w' ⟨h5, h6⟩ => ⟨h5, ?_⟩
    exact at_more (x := signEnt es.length vr key t) h1 h2 h3 h4 h6
theorem seal_st [Inhabited Go.Proofs.YtlbpodddokhmaaaGreat.Sha.Tabs] (base eb : Nat) (s : St) (vr : Int) (key nonce wth t : List UInt8) (w : World) (hA : At w base eb s) (hn : few s 900) (hs : sealsB vr key nonce = true) (hw : wth.length ≤ 1000) (ht : t.length ≤ 1000) :
    Calls Tryz.prog 14 #[.pointer (some ⟨eb, 0, none⟩), .int .i64 vr, .string (B key), .string (B nonce), .string (B wth), .string (B t)] w fun e w' => e = .returned (.tuple #[.string (B (madeS s key nonce t)), .string (B (stagS s vr key nonce wth t)), .int .i64 0]) ∧ At w' base eb (sealS s vr key nonce wth t) ∧ Below base w w' := by
  obtain ⟨s1, s2, s3, s4⟩ := seals_true hs
  obtain ⟨g1, g2⟩ := key_good s1
  obtain ⟨z1, z2⟩ := size_good vr
  have hlt := hA.lt
  cases s with
  | none =>
    obtain ⟨hg, he, hbe⟩ := hA
    refine (EngR.RSeal_any eb _ vr key nonce wth t w he ⟨by unfold Gf.keyOk; omega, s3, s4⟩ (by omega) (by omega) g1 (by omega) (by omega) (by omega) (by omega)).mono fun e w' ⟨h1, h2⟩ => ⟨h1, ?_, h2.mono (by omega)⟩
    exact At.below (s := none) ⟨hg, he, hbe⟩ h2
  | some es =>
    obtain ⟨ib, v, h1, h2, h3, h4⟩ := hA
    have hn2 : es.length ≤ 900 := hn
    refine (EngX.Seal_any eb (eb + 1) ib es.length _ _ v _ vr key nonce wth t w h1 h2 z1 (by omega) z2 (by omega) (by omega) (by omega) g1 (by omega) (by omega) (by omega) (by omega)).mono fun e w' ⟨h5, h6⟩ => ⟨h5, ?_⟩
    exact at_more (x := sealEnt es.length vr key nonce wth t) h1 h2 h3 h4 h6
theorem holds_st [Inhabited Go.Proofs.YtlbpodddokhmaaaGreat.Sha.Tabs] (base eb : Nat) (s : St) (vr : Int) (key t tag : List UInt8) (w : World) (hA : At w base eb s) (hn : few s 900) (hs : signsB vr key = true) (ht : t.length ≤ 1000) (hh : Held s vr key t tag) :
    Calls Tryz.prog 12 #[.pointer (some ⟨eb, 0, none⟩), .int .i64 vr, .string (B key), .string (B t), .string (B tag)] w fun e w' => e = .returned (.int .i64 0) ∧ Below w.heap.size w w' := by
  obtain ⟨s1, s2, s3⟩ := signs_true hs
  obtain ⟨g1, g2⟩ := bits_good s1
  cases s with
  | none =>
    obtain ⟨hg, he, hbe⟩ := hA
    obtain rfl : tag = hmacB (Eng.bits vr).toNat key t := hh
    exact EngR.RHolds_any eb vr _ key t w he hg g1 g2 s2 s3 (by omega)
  | some es =>
    obtain ⟨ib, v, h1, h2, h3, h4⟩ := hA
    have hn2 : es.length ≤ 900 := hn
    have hh2 : es.any (matchH vr key t tag) = true := hh
    have h0 : 0 < es.length := by
      cases es with
      | nil => simp at hh2
      | cons a l => simp
    refine (EngX.Holds_any eb (eb + 1) ib v es vr key t tag w h1 h2 h0 (by omega) s1 s2 s3).mono fun e w' ⟨h5, h6⟩ => ⟨?_, h6⟩
    rw [h5, hh2, if_pos rfl]
theorem open_st [Inhabited Go.Proofs.YtlbpodddokhmaaaGreat.Sha.Tabs] (base eb : Nat) (s : St) (vr : Int) (key nonce wth t made tag : List UInt8) (w : World) (hA : At w base eb s) (hn : few s 900) (hs : sealsB vr key nonce = true) (hw : wth.length ≤ 1000) (ht : t.length ≤ 1000) (ho : Opens s vr key nonce wth t made tag) :
    Calls Tryz.prog 16 #[.pointer (some ⟨eb, 0, none⟩), .int .i64 vr, .string (B key), .string (B nonce), .string (B wth), .string (B made), .string (B tag)] w fun e w' => e = .returned (.tuple #[.string (B t), .int .i64 0]) ∧ Below w.heap.size w w' := by
  obtain ⟨s1, s2, s3, s4⟩ := seals_true hs
  obtain ⟨g1, g2⟩ := key_good s1
  cases s with
  | none =>
    obtain ⟨hg, he, hbe⟩ := hA
    obtain ⟨rfl, rfl⟩ : made = sealB key nonce t ∧ tag = tagB key (firstB key nonce) wth (sealB key nonce t) := ho
    exact EngR.ROpen_any eb _ vr key nonce wth t w he ⟨by unfold Gf.keyOk; omega, s3, s4⟩ (by omega) (by omega) g1 (by omega) (by omega) (by omega) (by omega)
  | some es =>
    obtain ⟨ib, v, h1, h2, h3, h4⟩ := hA
    have hn2 : es.length ≤ 900 := hn
    obtain ⟨x, hx, rfl⟩ := ho
    have h0 : 0 < es.length := by
      cases es with
      | nil => simp at hx
      | cons a l => simp
    refine (EngX.Open_any eb (eb + 1) ib _ v es vr key nonce wth made tag w h1 h2 h0 (by omega) g1 (by omega) (by omega) (by omega) (by omega)).mono fun e w' ⟨h5, h6⟩ => ⟨?_, h6⟩
    rw [h5, hx]
end Go.Proofs.YtlbpodddokhmaaaGreat.EngS
