/-
  Numerals: what is parsed is what was formatted; the walk of eid.number.
  Conditions: the library's variables hold what the program's text lays.
-/
import Derived.Test.YtlbpodddokhmaaaDoorFmt
import Derived.Lib.ParseIntBCases
namespace Go.Proofs.YtlbpodddokhmaaaDoor.Fmt
open Go.ChangeShapes Go.WideShapes Go.ChangeAt Go.RowKit Go.Deep Go.Lib Go.Proofs.YtlbpodddokhmaaaDoor.Itm
/-- The library's variables: the table, and the two errors are some errors. -/
def Glob (w : World) : Prop := Tab w ∧ (∃ tp p, w.var? Tryd.prog "strconv.ErrSyntax" = some #[.iface tp p]) ∧ ∃ tp p, w.var? Tryd.prog "strconv.ErrRange" = some #[.iface tp p]
theorem var_below {w w' : World} {name : String} {cs : Array Value} (h : w.var? Tryd.prog name = some cs) (hb : Below w.heap.size w w') : w'.var? Tryd.prog name = some cs := by
  unfold World.var? at *
  cases hg : Tryd.prog.globalNamed name with
  | none => rw [hg] at h; cases h
  | some g =>
    rw [hg] at h
    simp only [Option.bind_some] at h ⊢
    have hlt : g < w.heap.size := by
      rcases Nat.lt_or_ge g w.heap.size with h' | h'
      · exact h'
      · rw [Array.getElem?_eq_none h'] at h; cases h
    rw [hb.block g hlt]
    exact h
theorem Glob.below {w w' : World} (h : Glob w) (hb : Below w.heap.size w w') : Glob w' := by
  obtain ⟨h1, ⟨tp, p, h2⟩, tq, q, h3⟩ := h
  exact ⟨h1.below rfl hb, ⟨tp, p, var_below h2 hb⟩, tq, q, var_below h3 hb⟩
def valD : List UInt8 → Nat → Nat
  | [], acc => acc
  | c :: r, acc => valD r (acc * 10 + (c.toNat - 48))
theorem valD_nil (acc : Nat) : valD [] acc = acc := by simp only [valD]
theorem valD_cons (c : UInt8) (r : List UInt8) (acc : Nat) : valD (c :: r) acc = valD r (acc * 10 + (c.toNat - 48)) := by simp only [valD]
theorem val_append : ∀ (l : List UInt8) (acc : Nat) (c : UInt8), valD (l ++ [c]) acc = valD l acc * 10 + (c.toNat - 48)
  | [], acc, c => by rw [List.nil_append, valD_cons, valD_nil, valD_nil]
  | d :: r, acc, c => by rw [List.cons_append, valD_cons, valD_cons, val_append r]
theorem val_ge : ∀ (l : List UInt8) (acc : Nat), acc ≤ valD l acc
  | [], acc => by rw [valD_nil]; exact Nat.le_refl _
  | c :: r, acc => by
    rw [valD_cons]
    have := val_ge r (acc * 10 + (c.toNat - 48))
    omega
theorem digit_val {k : Nat} (h : k < 10) : (UInt8.ofNat (48 + k)).toNat = 48 + k := by
  simp
  omega
theorem val_dec (n : Nat) : valD (decDigits n) 0 = n := by
  induction n using Nat.strongRecOn with
  | _ n ih =>
    by_cases h : n < 10
    · rw [decDigits_one h, valD_cons, valD_nil, digit_val h]
      omega
    · rw [dec_big h, val_append, ih (n / 10) (by omega), digit_val (by omega)]
      omega
theorem dec_digits (n : Nat) : ∀ c ∈ decDigits n, 48 ≤ c.toNat ∧ c.toNat ≤ 57 := by
  induction n using Nat.strongRecOn with
  | _ n ih =>
    intro c hc
    by_cases h : n < 10
    · rw [decDigits_one h, List.mem_singleton] at hc
      rw [hc, digit_val h]
      omega
    · rw [dec_big h, List.mem_append, List.mem_singleton] at hc
      rcases hc with hc | hc
      · exact ih (n / 10) (by omega) c hc
      · rw [hc, digit_val (by omega)]
        omega
theorem dec_ne (n : Nat) : decDigits n ≠ [] := by
  intro h
  have h1 := congrArg List.length h
  have := nDigits_pos n
  rw [decDigits_length] at h1
  simp at h1
  omega
theorem parse_val : ∀ (l : List UInt8) (acc : Nat), (∀ c ∈ l, 48 ≤ c.toNat ∧ c.toNat ≤ 57) → valD l acc < W64 → parseUintM (2 ^ 64 - 1) acc l = .ok (valD l acc)
  | [], acc, _, _ => by rw [valD_nil]; rfl
  | c :: r, acc, hd, hv => by
    have e := valD_cons c r acc
    have h1 := hd c (by simp)
    rw [valD_cons] at hv
    have h2 := val_ge r (acc * 10 + (c.toNat - 48))
    have hW : W64 = 18446744073709551616 := rfl
    rw [parseUintM, if_pos h1, if_neg (by omega), if_neg (by omega), parse_val r _ (fun d hd' => hd d (by simp [hd'])) hv, e]
theorem parse_dec {n : Nat} (h : n < W64) : parseUintB 64 (decDigits n) = .ok n := by
  unfold parseUintB
  rw [if_neg (dec_ne n), parse_val _ 0 (dec_digits n) (by rw [val_dec]; exact h), val_dec]
/-- What eid.number answers. -/
def NumR (s : List UInt8) (e : Ending) : Prop := ∃ (n : Nat) (k : Bool), e = .returned (.tuple #[.int .u64 n, .bool k]) ∧ n < W64 ∧ (k = true → s = decDigits n) ∧ (k = false → ∀ n, n < W64 → s ≠ decDigits n)
set_option maxHeartbeats 1600000 in
set_option maxRecDepth 100000 in
theorem number_any (s : List UInt8) (hl : s.length ≤ 1000) (w : World) (hg : Glob w) : Calls Tryd.prog 16 #[.string (B s)] w fun e w' => NumR s e ∧ Below w.heap.size w w' := by
  have hsz : (B s).size ≤ 9223372036854775806 := by rw [B_size]; omega
  have hsz2 : (B s).size ≤ 281474976710656 := by rw [B_size]; omega
  cases hp : parseUintB 64 s with
  | ok u =>
    have hu : u < W64 := by
      have := parseUintB_le hp
      unfold W64
      omega
    have HC := Lib.hid (Tryd.strconv_ParseUint_10_at64_ok (B s) hsz u (by rw [B_data]; exact hp) w)
    have HF := Lib.hid fun (W : World) (hW : Glob W) => FormatUint_any u hu W hW.1
    have HR : Hid (NumR s (.returned (.tuple #[.int .u64 u, .bool (decide (decDigits u = s))]))) := Lib.hid ⟨u, _, rfl, hu, fun h => (by simpa using h : decDigits u = s).symm, fun h n hn he => by
      have h1 : ¬ decDigits u = s := by simpa using h
      subst he
      rw [parse_dec hn] at hp
      injection hp with hp
      exact h1 (by rw [hp])⟩
    have HG := Lib.hid hg
    have hdl := dec_len20 hu
    clear hp hsz hsz2 hg hu
    generalize decDigits u = D at *
    go_enter Tryd.func16, Tryd.ntmps16
    go_wp2_with fail
    refine HC.out.mono ?_
    rintro e w1 ⟨rfl, hw1⟩
    have hb1 : Below w.heap.size w w1 := by
      rcases hw1 with rfl | rfl
      · exact Below.refl _ _
      · exact ⟨rfl, rfl, rfl, by rw [bytesWorld_size]; omega, fun k hk => bytesWorld_at_old w 5 (B s) k hk⟩
    have HB := Lib.hid hb1
    clear hw1 hb1
    go_wp2_with fail
    refine (HF.out _ (HG.out.below HB.out)).mono ?_
    rintro e w2 ⟨rfl, hb2⟩
    have HB2 := Lib.hid (HB.out.trans (hb2.mono HB.out.size))
    have HS : Hid ((D == s) = decide (D = s)) := Lib.hid (by rw [Bool.eq_iff_iff]; simp)
    clear hb2
    obtain ⟨kk, hkk⟩ : ∃ kk, (D == s) = kk := ⟨_, rfl⟩
    have HK : Hid (NumR s (.returned (.tuple #[.int .u64 u, .bool kk]))) := Lib.hid (by
      have := HR.out
      rw [← HS.out, hkk] at this
      exact this)
    clear HR HS
    go_wp2
    go_ret2
    exact ⟨HK.out, HB2.out⟩
  | «syntax» =>
    obtain ⟨_, ⟨tp, p, hv⟩, _⟩ := hg
    have HC := Lib.hid (Tryd.strconv_ParseUint_10_at64_syntax_var (B s) hsz2 (by rw [B_data]; exact hp) tp p w hv)
    have HR : Hid (NumR s (.returned (.tuple #[.int .u64 0, .bool false]))) := Lib.hid ⟨0, false, rfl, by decide, (fun h => by cases h), (fun _ n hn he => by rw [he, parse_dec hn] at hp; cases hp)⟩
    clear hp hsz hsz2 hv
    go_enter Tryd.func16, Tryd.ntmps16
    go_wp2_with fail
    refine HC.out.mono ?_
    rintro e w1 ⟨N, rfl, _, _, hb⟩
    have HB := Lib.hid hb
    clear hb
    go_wp2
    go_ret2
    exact ⟨HR.out, HB.out⟩
  | range =>
    obtain ⟨_, _, tp, p, hv⟩ := hg
    have HC := Lib.hid (Tryd.strconv_ParseUint_10_at64_range_var (B s) hsz2 (by rw [B_data]; exact hp) tp p w hv)
    have HR : Hid (NumR s (.returned (.tuple #[.int .u64 18446744073709551615, .bool false]))) := Lib.hid ⟨18446744073709551615, false, rfl, by decide, (fun h => by cases h), (fun _ n hn he => by rw [he, parse_dec hn] at hp; cases hp)⟩
    clear hp hsz hsz2 hv
    go_enter Tryd.func16, Tryd.ntmps16
    go_wp2_with fail
    refine HC.out.mono ?_
    rintro e w1 ⟨N, rfl, _, _, hb⟩
    have HB := Lib.hid hb
    clear hb
    go_wp2
    go_ret2
    exact ⟨HR.out, HB.out⟩
end Go.Proofs.YtlbpodddokhmaaaDoor.Fmt
