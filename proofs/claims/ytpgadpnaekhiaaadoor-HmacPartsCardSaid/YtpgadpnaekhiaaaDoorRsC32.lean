/-
  The reference of SHA-2 with words of 32 bits: the walk of Sum.
  Conditions: a size of these words.
-/
import Derived.Test.YtpgadpnaekhiaaaDoorRsB32
import Derived.Test.YtpgadpnaekhiaaaDoorShaF32
import Derived.Test.YtpgadpnaekhiaaaDoorBuf
namespace Go.Proofs.YtpgadpnaekhiaaaDoor.Sha32
open Go.ChangeShapes Go.WideShapes Go.ChangeAt Go.RowKit Go.Deep Go.Proofs.YtpgadpnaekhiaaaDoor.Bw
open Go.Proofs.YtpgadpnaekhiaaaDoor.Sha (roundsL firstsL wholeL zeros zeros_length made_zeros numB numF numB_length)
set_option maxRecDepth 100000 in
theorem Of_any (size : Nat) (w : World) (hs : ((size : Int) == 256) = true) : Calls Tryd.prog 25 #[.int .i64 size] w fun e w' => e = .returned RV ∧ Below w.heap.size w w' := by
  unfold RV
  go_enter Tryd.func25, Tryd.ntmps25
  go_wp2_with (with_reducible refine stop_store (t := 48) rfl ?_)
  refine Lib.hid ?_
  refine wpList_store_rowTo rfl 48 _ _ rfl rfl w.heap.size #[.int .i64 32, .int .i64 64, .int .u64 2, .int .u64 13, .int .u64 22, .int .u64 6, .int .u64 11, .int .u64 25, .int .u64 7, .int .u64 18, .int .u64 3, .int .u64 17, .int .u64 19, .int .u64 10] rfl rfl 48 _ (heap_alloc_last w _) (by kernel_rfl) rfl (by kernel_rfl) ?_
  rw [World.setRow_alloc_new]
  go_wp2
  exact post_row w.heap.size Tryd.results25 48 _ _ rfl (heap_alloc_last w _) Tryd.underlying48 rfl (by kernel_rfl) rfl ⟨rfl, by ((repeat' (with_reducible first | exact Below.refl _ _ | assumption | refine Below.drew ?_ | refine below_drewN ?_ _ | refine Below.setCell ?_ ?_ _ | refine Below.alloc ?_ ?_ _ | refine Below.ext ?_ ?_ _ | refine Below.trans ?_ (Below.mono ‹_› ?_))) <;> first | omega | (simp; done) | (simp; omega))⟩
/-- The bytes of a list, as numbers. -/
def valL (b : List UInt8) : List Nat := b.map UInt8.toNat
theorem valL_length (b : List UInt8) : (valL b).length = b.length := List.length_map _
theorem valL_append (a b : List UInt8) : valL (a ++ b) = valL a ++ valL b := List.map_append
theorem valL_Z (n : Nat) : valL (Z n) = zeros n := by simp [valL, Z, zeros]
theorem valL_get (b : List UInt8) (i : Nat) : (valL b).getD i 0 = byteF b i := by
  unfold valL byteF
  simp only [List.getD, List.getElem?_map]
  cases b[i]? <;> rfl
theorem valL_tab (f : Nat → Nat) (n : Nat) (h : ∀ i, i < n → f i < 256) : valL ((tab f n).map UInt8.ofNat) = tab f n := by
  apply list_ext (by simp [valL, tab_length])
  intro k hk
  have hk2 : k < n := by simpa [valL, tab_length] using hk
  rw [tab_get _ _ _ hk2, valL_get]
  unfold byteF
  simp only [List.getD, List.getElem?_map]
  have e : (tab f n)[k]? = some (f k) := by
    have := tab_get f n k hk2
    simp only [List.getD] at this
    rw [List.getElem?_eq_getElem (by rw [tab_length]; exact hk2)] at this ⊢
    simpa using this
  rw [e]
  simpa using h k hk2
theorem zeros_succ (n : Nat) : zeros (n + 1) = zeros n ++ [0] := by simp [zeros, List.replicate_succ']
theorem zeros_add (m n : Nat) : zeros (m + n) = zeros m ++ zeros n := by simp [zeros, List.replicate_append_replicate]
theorem tab_succ (f : Nat → Nat) (n : Nat) : tab f (n + 1) = tab f n ++ [f n] := by simp [tab, List.range_succ]
/-- The last eight bytes of a length. -/
def lenF (n t : Nat) : Nat := n / 2 ^ (56 - 8 * t) % 256
theorem valL_num (n : Nat) : valL (numB n 8) = zeros (8 - 8) ++ tab (lenF n) 8 := by
  rw [numB, valL_tab _ _ (fun i _ => by unfold numF; split <;> omega)]
  apply list_ext (by simp [tab_length, zeros_length])
  intro k hk
  rw [tab_length] at hk
  rw [tab_get _ _ _ hk]
  by_cases h8 : k < 8 - 8
  · simp only [List.getD]
    rw [List.getElem?_append_left (by rw [zeros_length]; exact h8)]
    have := Sha.zeros_get (8 - 8) k
    simp only [List.getD] at this
    rw [this, numF, if_neg (by omega)]
  · simp only [List.getD]
    rw [List.getElem?_append_right (by rw [zeros_length]; omega), zeros_length]
    have := tab_get (lenF n) 8 (k - (8 - 8)) (by omega)
    simp only [List.getD] at this
    rw [this, numF, if_pos (by omega), lenF]
    congr 2
    congr 1
    omega
theorem valL_pad (b : List UInt8) : valL (padB b) = ((valL b ++ [128]) ++ zeros (padN b.length + (8 - 8))) ++ tab (lenF (8 * b.length)) 8 := by
  rw [padB, valL_append, valL_append, valL_append, valL_Z, valL_num, zeros_add]
  simp [valL]
theorem valL_word (v : Nat) (_hv : v < 4294967296) : valL (numB v 4) = tab (fun t => v / 2 ^ (32 - 8 - 8 * t) % 256) 4 := by
  rw [numB, valL_tab _ _ (fun i _ => by unfold numF; split <;> omega)]
  apply list_ext (by simp [tab_length])
  intro k hk
  rw [tab_length] at hk
  rw [tab_get _ _ _ hk, tab_get _ _ _ hk, numF, if_pos (by omega)]
  congr 2
  congr 1
  omega
theorem valL_back (b : List UInt8) : (valL b).map UInt8.ofNat = b := by
  unfold valL
  rw [List.map_map]
  conv => rhs; rw [← List.map_id b]
  apply List.map_congr_left
  intro x _
  simp
theorem pad_stop (m j : Nat) (h : j ≤ padN m) : (m + 1 + j) % 64 = 64 - 8 ↔ j = padN m := by
  unfold padN at *
  omega
theorem whole_cut (fr : Nat) : tab (fun i => cutF ((wholeL fr).getD i 0)) 8 = beginL fr := by
  apply list_ext (by simp [tab_length, beginL])
  intro k hk
  rw [tab_length] at hk
  rw [tab_get _ _ _ hk, wholeL, tab_get _ _ _ hk, beginL, tab_get _ _ _ hk, beginF]
theorem whole_lt (fr i : Nat) : (wholeL fr).getD i 0 < 18446744073709551616 := by
  by_cases hi : i < 8
  · rw [wholeL, tab_get _ _ _ hi]; exact firsts_lt _
  · rw [List.getD, List.getElem?_eq_none (by rw [wholeL, tab_length]; omega)]; simp
theorem set_self {l : List Nat} {i v : Nat} (h : i < l.length) (hv : l.getD i 0 = v) : l.set i v = l := by
  apply list_ext (by rw [List.length_set])
  intro k _
  rw [getD_set _ _ _ _ h]
  by_cases e : k = i
  · subst e; rw [if_pos rfl, hv]
  · rw [if_neg e]
theorem cutI (w : World) {g n cap q q2 : Nat} (hq : q + 64 = q2) (hn : q2 ≤ n) (hc : n ≤ cap) :
    (Instr.sliceAt 33 (.slice (some ⟨g, 0, none⟩) n cap) (some (.int .i64 (q : Int))) (some (.int .i64 (q2 : Int))) none).run Tryd.prog w = .ok (.slice (some ⟨g, q, none⟩) 64 (cap - q)) w := by
  have h1 : (q2 : Int) ≤ (cap : Int) := by omega
  have h2 : (q : Int) ≤ (q2 : Int) := by omega
  have h3 : ¬ cap = q := by omega
  have h4 : q2 - q = 64 := by omega
  go_simp
theorem runCut {o : Oper} {a : Act} {w : World} (x lo hi : Operand) (ho : o.op = .slice 33 x (some lo) (some hi) none) {g n cap q q2 : Nat} (hx : a.eval x = .slice (some ⟨g, 0, none⟩) n cap) (hlo : a.eval lo = .int .i64 (q : Int)) (hhi : a.eval hi = .int .i64 (q2 : Int)) (hq : q + 64 = q2) (hn : q2 ≤ n) (hc : n ≤ cap) :
    (execOp a.eval o).run Tryd.prog w = .ok (.value (.slice (some ⟨g, q, none⟩) 64 (cap - q))) w := by
  unfold execOp
  simp only [ho, hx, hlo, hhi, Option.map_some, Option.map_none, Sem.run_bind, cutI w hq hn hc, Result.andThen_ok, Sem.run_pure]
/-- What the blocks' loop keeps. -/
structure SrS (w : World) (fb g : Nat) (all : List UInt8) (W : World) : Prop where
  bel : Below w.heap.size w W
  form : W.heap[fb]? = some (.cells #[.int .i64 32, .int .i64 64, .int .u64 2, .int .u64 13, .int .u64 22, .int .u64 6, .int .u64 11, .int .u64 25, .int .u64 7, .int .u64 18, .int .u64 3, .int .u64 17, .int .u64 19, .int .u64 10] 48 (0, 0))
  cells : ∀ x, x < all.length → W.cell? ⟨g, x, none⟩ = some (.int .u8 ((byteF all x : Nat) : Int))
theorem SrS.keep {w : World} {fb g : Nat} {all : List UInt8} (W W1 : World) (h : SrS w fb g all W) (hb : Below W.heap.size W W1) : SrS w fb g all W1 :=
  ⟨h.bel.trans (hb.mono h.bel.size), below_heap hb (lt_of_heap h.form) h.form, fun x hx => by rw [hb.cell (p := ⟨g, x, none⟩) (World.block_lt_of_cell? W ⟨g, x, none⟩ (h.cells x hx))]; exact h.cells x hx⟩
theorem SrS.set {w : World} {fb g : Nat} {all : List UInt8} {W : World} (h : SrS w fb g all W) (b i : Nat) (v : Value) (hw : w.heap.size ≤ b) (hf : fb ≠ b) (hg : g ≠ b) : SrS w fb g all (W.setCell ⟨b, i, none⟩ v) :=
  ⟨Below.setCell h.bel hw v, by rw [setCell_block _ _ _ _ _ (Ne.symm hf)]; exact h.form, fun x hx => by rw [World.cell?_of_block (setCell_block _ _ _ _ _ (Ne.symm hg))]; exact h.cells x hx⟩
theorem SrS.setRow {w : World} {fb g : Nat} {all : List UInt8} {W : World} (h : SrS w fb g all W) (b : Nat) (c : Array Value) (hw : w.heap.size ≤ b) (hf : fb ≠ b) (hg : g ≠ b) : SrS w fb g all (W.setRow b c) :=
  ⟨Below.setRow h.bel b hw c, by rw [setRow_other _ _ _ _ (Ne.symm hf)]; exact h.form, fun x hx => by
    have e : (W.setRow b c).heap[g]? = W.heap[g]? := setRow_other _ _ _ _ (Ne.symm hg)
    rw [World.cell?_of_block e]; exact h.cells x hx⟩
set_option maxHeartbeats 3200000 in
set_option maxRecDepth 100000 in
theorem Sum_ref (size fr : Nat) (b : List UInt8) (w : World) (hs : SizeOk size) (hfr : (((size : Int) == 384) = true ∧ fr = 1) ∨ (((size : Int) == 384) = false ∧ fr = 0)) (hbl : b.length ≤ 100000) :
    Calls Tryd.prog 16 #[.int .i64 size, .string (B b)] w fun e w' => e = .returned (.string (B (sumB size fr b))) ∧ Below w.heap.size w w' := by
  have HOF := Lib.hid fun W => Of_any size W hs.1
  obtain ⟨m, hm⟩ : ∃ m, m = size / 8 := ⟨_, rfl⟩
  have hm8 : m ≤ 8 * 4 := by rw [hm]; exact hs.le
  have hqm : (size : Int).tdiv 8 = (m : Int) := by rw [hm]; simp
  have HM := Lib.hid hm
  have hsz : size < 1000 := by rcases hs.2 with rfl | rfl | rfl <;> omega
  have HH := Lib.hid fun W => Sha.H_any size fr W hfr
  clear hm hs hfr
  unfold RV at *
  go_enter Tryd.func16, Tryd.ntmps16
  go_wp2_with fail
  refine Calls.below (HOF.out _) fun W2 hW2 => ?_
  go_wp2_with (with_reducible refine stop_store (t := 48) rfl ?_)
  refine Lib.hid ?_
  refine wpList_store_rowTo rfl 48 _ _ rfl rfl W2.heap.size #[.int .i64 32, .int .i64 64, .int .u64 2, .int .u64 13, .int .u64 22, .int .u64 6, .int .u64 11, .int .u64 25, .int .u64 7, .int .u64 18, .int .u64 3, .int .u64 17, .int .u64 19, .int .u64 10] rfl rfl 48 _ (heap_alloc_last W2 _) (by kernel_rfl) rfl (by kernel_rfl) ?_
  rw [World.setRow_alloc_new]
  have hform : (W2.alloc (.cells #[.int .i64 32, .int .i64 64, .int .u64 2, .int .u64 13, .int .u64 22, .int .u64 6, .int .u64 11, .int .u64 25, .int .u64 7, .int .u64 18, .int .u64 3, .int .u64 17, .int .u64 19, .int .u64 10] 48)).heap[W2.heap.size]? = some (.cells #[.int .i64 32, .int .i64 64, .int .u64 2, .int .u64 13, .int .u64 22, .int .u64 6, .int .u64 11, .int .u64 25, .int .u64 7, .int .u64 18, .int .u64 3, .int .u64 17, .int .u64 19, .int .u64 10] 48 (0, 0)) := heap_alloc_last W2 _
  have hbel : Below w.heap.size w (W2.alloc (.cells #[.int .i64 32, .int .i64 64, .int .u64 2, .int .u64 13, .int .u64 22, .int .u64 6, .int .u64 11, .int .u64 25, .int .u64 7, .int .u64 18, .int .u64 3, .int .u64 17, .int .u64 19, .int .u64 10] 48)) := hW2.alloc hW2.size _
  have hfbw : w.heap.size ≤ W2.heap.size := hW2.size
  generalize W2.alloc (.cells #[.int .i64 32, .int .i64 64, .int .u64 2, .int .u64 13, .int .u64 22, .int .u64 6, .int .u64 11, .int .u64 25, .int .u64 7, .int .u64 18, .int .u64 3, .int .u64 17, .int .u64 19, .int .u64 10] 48) = W1 at *
  generalize W2.heap.size = fb at *
  clear hW2 W2 HOF
  have hfl := lt_of_heap hform
  have hf0 : W1.cell? ⟨fb, 0, none⟩ = some (.int .i64 32) := by rw [cell_of_row _ _ _ _ _ _ hform]; rfl
  obtain ⟨cap, V, hconv, hbV, hbuf⟩ := buf_conv (P := Tryd.prog) W1 9 33 5 b Tryd.underlying9 Tryd.underlying33 Tryd.underlying5
  have HBUF := Lib.hid hbuf
  have HBV := Lib.hid hbV
  clear hbuf hbV
  go_wp2_with (at_builtin; refine RowKit.Hid.out ?_)
  refine Lib.hid ?_
  have hW1V : W1.heap.size ≤ V.heap.size := HBV.out.size
  refine app_buf rfl (.tmp 23) (.tmp 24) rfl (some 25) rfl W1.heap.size _ (valL b) 128 rfl (HBUF.out.alloc _) V.heap.size rfl (by rw [World.cell?_alloc_new]; rfl) (by rw [valL_length]; omega) W1 (HBV.out.alloc hW1V _) (by simp; omega) ?_
  intro v1 W3 hbuf hb3
  clear hconv HBUF HBV hW1V hf0
  obtain ⟨pn, hpn⟩ : ∃ pn, padN b.length = pn := ⟨_, rfl⟩
  have hst := pad_stop b.length
  have HPL := Lib.hid (padB_length b)
  have HPM := Lib.hid (padB_mod b)
  have HPV := Lib.hid (valL_pad b)
  rw [hpn] at hst HPL HPV
  have hpl : pn < 64 := by rw [← hpn]; exact Nat.mod_lt _ (by omega)
  have hvl := valL_length b
  have HSB := Lib.hid (show sumB size fr b = (wordsB (sumN fr (padB b) ((padB b).length / 64)) 8).take m by rw [HM.out]; rfl)
  generalize padB b = all at *
  generalize hres0 : sumB size fr b = res at *
  have HRES := Lib.hid hres0
  clear hres0
  have HST := Lib.hid hst
  clear hpn hst
  go_wp2
  go_loopw [7] (fun s7 wr => ∃ j : Nat, j ≤ pn ∧ BufAt wr W1.heap.size s7 (valL b ++ [128] ++ zeros j) ∧ Below W1.heap.size W1 wr) (fun s _ => match s with | .slice _ n _ => b.length + 1 + pn - n | _ => 0)
  case atStart => exact ⟨0, by omega, by simpa [zeros] using hbuf, hb3⟩
  case round =>
    clear hbuf hb3
    obtain ⟨j, hj, hbuf, hb⟩ := hrel
    have hjs := HST.out j hj
    obtain ⟨n, hn⟩ : ∃ n, b.length + 1 + j = n := ⟨_, rfl⟩
    have hlen : (valL b ++ [128] ++ zeros j).length = n := by rw [List.length_append, List.length_append, hvl, zeros_length]; simpa using hn
    obtain ⟨g, cap1, hv, hrest⟩ := id hbuf
    rw [hlen] at hv
    subst hv
    clear hrest
    obtain ⟨r, hr⟩ : ∃ r, n % 64 = r := ⟨_, rfl⟩
    have htm : (n : Int).tmod 64 = (r : Int) := by rw [Int.tmod_eq_emod_of_nonneg (Int.natCast_nonneg _)]; omega
    have hwr : wrap64 (r : Int) = (r : Int) := by unfold wrap64; omega
    rw [hn, hr] at hjs
    have hbw := hb.size
    have HBUF := Lib.hid hbuf
    have HB := Lib.hid hb
    clear hbuf hb
    by_cases hjp : j = pn
    · have hne : ((r : Int) != 56) = false := by
        have h2 : r = 56 := hjs.2 hjp
        rw [h2]
        rfl
      clear hjs hr
      subst hjp
      go_wp2
      go_loopw [7, 8] (fun s7 s8 wr => ∃ i : Nat, 8 ≤ i ∧ i ≤ 8 ∧ s8 = .int .i64 (i : Int) ∧ BufAt wr W1.heap.size s7 (valL b ++ [128] ++ zeros (j + (i - 8))) ∧ Below W1.heap.size W1 wr) (fun _ s _ => 8 - (intOf s).toNat)
      case atStart => exact ⟨8, by omega, by omega, rfl, HBUF.out, HB.out⟩
      case round =>
        clear HBUF HB hbw
        obtain ⟨i, hi8, hi, rfl, hbuf, hb⟩ := hrel
        have hbw := hb.size
        have HBUF := Lib.hid hbuf
        have HB := Lib.hid hb
        clear hbuf hb
        by_cases hend : i = 8
        · have hlt : ¬ (i : Int) < 8 := by omega
          subst hend
          obtain ⟨n8, h8⟩ : ∃ n8, b.length * 8 = n8 := ⟨_, rfl⟩
          have hn8 : (b.length : Int) * 8 = (n8 : Int) := by omega
          have hw8 : IntKind.u64.wrap (b.length : Int) = (b.length : Int) := wrap64u _ (by omega)
          have hw9 : IntKind.u64.wrap (n8 : Int) = (n8 : Int) := wrap64u _ (by omega)
          rw [show 8 * b.length = n8 by omega] at HPV
          go_wp2
          clear hn8 hw8 hw9
          obtain ⟨pre, hpre⟩ : ∃ pre, valL b ++ [128] ++ zeros (j + (8 - 8)) = pre := ⟨_, rfl⟩
          have hprel : pre.length = b.length + 1 + (j + (8 - 8)) := by rw [← hpre, List.length_append, List.length_append, hvl, zeros_length]; rfl
          have hb1 := HBUF.out
          rw [hpre] at hb1 HPV
          clear hpre HBUF hwr htm hne
          go_loopw [7, 10] (fun s7 s10 wr => ∃ k : Nat, k ≤ 8 ∧ s10 = .int .i64 (56 - 8 * (k : Int)) ∧ BufAt wr W1.heap.size s7 (pre ++ tab (lenF n8) k) ∧ Below W1.heap.size W1 wr) (fun _ s _ => (intOf s + 8).toNat)
          case atStart => exact ⟨0, by omega, rfl, by simpa [tab] using hb1, HB.out⟩
          case round =>
            clear hb1 HB hbw
            obtain ⟨k, hk, hs10, hbuf, hb⟩ := hrel
            have hbw := hb.size
            by_cases hend : k = 8
            · subst hend
              replace hs10 : u10 = .int .i64 (-8) := hs10
              subst hs10
              rw [← HPV.out] at hbuf
              obtain ⟨g2, cap2, hv, hg1, hg2, hcap, hcells, -⟩ := hbuf
              rw [valL_length] at hv hcap hcells
              subst hv
              have HB := Lib.hid hb
              have HCELLS := Lib.hid hcells
              clear hb hcells hprel
              go_wp2_with fail
              refine Calls.below (HH.out _) fun W5 hW5 => ?_
              dsimp only
              rename_i K hK K2 hK2
              refine hK2 _ _ ?_
              have hwl : (wholeL fr).length = 8 := tab_length _ _
              have hb5 := HB.out.trans (hW5.mono hbw)
              have hS0 : SrS w fb g2 all W5 := ⟨hbel.trans (hb5.mono hbel.size), below_heap hb5 hfl hform, fun x hx => by
                rw [hW5.cell (p := ⟨g2, x, none⟩) hg2, HCELLS.out x hx, valL_get]⟩
              have hgk : g2 < W5.heap.size := Nat.lt_of_lt_of_le hg2 hW5.size
              have hfk : fb < W5.heap.size := Nat.lt_of_lt_of_le hfl hb5.size
              have hwk : w.heap.size ≤ W5.heap.size := by omega
              refine Sha.keep_row rfl rfl 11 rfl (nums .u64 (zeros 8)) (nums .u64 (wholeL fr)) 50 _ _ (by kernel_rfl) rfl rfl rfl rfl (by rw [nums_size, hwl]; kernel_rfl) (by rw [nums_size, nums_size, hwl, zeros_length]) (nums_oneCell _ _) ?_
              refine wpList_nil ?_
              refine hK _ _ ?_
              clear hK2 K2 hK K
              have hS := SrS.keep _ _ hS0 ((Below.refl W5.heap.size W5).alloc (Nat.le_refl _) (.cells (nums .u64 (wholeL fr)) 50))
              have hrow := NumsAt.new W5 50 .u64 (wholeL fr)
              generalize W5.alloc (.cells (nums .u64 (wholeL fr)) 50) = W6 at *
              generalize hbk0 : W5.heap.size = hbk at *
              clear hS0 hb5 hW5 HCELLS HB hbk0 HH hg1 hg2 hbw
              have HWL := Lib.hid (whole_lt fr)
              have HWC := Lib.hid (whole_cut fr)
              have HBF := Lib.hid (show ∀ i, i < 8 → beginF fr i = cutF ((wholeL fr).getD i 0) from fun i hi => by rw [wholeL, tab_get _ _ _ hi]; rfl)
              have HBL := Lib.hid (show beginL fr = tab (beginF fr) 8 from rfl)
              have hsn0 : sumN fr all 0 = beginL fr := rfl
              generalize wholeL fr = wl at *
              go_wp2
              go_loopw [12] (fun s12 wr => ∃ (i : Nat) (l : List Nat), i ≤ 8 ∧ s12 = .int .i64 i ∧ l = fillN (beginF fr) wl i ∧ NumsAt wr hbk 50 .u64 l ∧ SrS w fb g2 all wr) (fun s _ => 8 - (intOf s).toNat)
              case atStart => exact ⟨0, wl, by omega, rfl, rfl, hrow, hS⟩
              case round =>
                clear hrow hS
                obtain ⟨i, l, hi, rfl, hl, hrow, hS⟩ := hrel
                have hll : l.length = 8 := by rw [hl, fillN_length, hwl]
                by_cases hi8 : i = 8
                · have hlt8 : ¬ (i : Int) < 8 := by omega
                  have hl0 : l = sumN fr all 0 := by rw [hl, hi8, fillN_full _ hwl, hsn0, HBL.out]
                  subst hl0
                  clear hl hi8 hll
                  have hpl2 : all.length ≤ 999000 := by have := HPL.out; omega
                  have hpm := HPM.out
                  have HBLK0 := Lib.hid (show ∀ k q W, 64 * k = q → q + 64 ≤ all.length → SrS w fb g2 all W → Calls Tryd.prog 27 #[.agg #[.int .i64 32, .int .i64 64, .int .u64 2, .int .u64 13, .int .u64 22, .int .u64 6, .int .u64 11, .int .u64 25, .int .u64 7, .int .u64 18, .int .u64 3, .int .u64 17, .int .u64 19, .int .u64 10], .agg (nums .u64 (sumN fr all k)), .slice (some ⟨g2, q, none⟩) 64 (cap2 - q)] W fun e w' => e = .returned (.agg (nums .u64 (sumN fr all (k + 1)))) ∧ Below W.heap.size W w' from
                    fun k q W hq hl hS => block_any (sumN fr all k) (blkB all k) g2 q (cap2 - q) W (sumN_length _ _ _) (sumN_words _ _ _) (by rw [blkB, List.length_take, List.length_drop]; omega) (World.block_lt_of_cell? W ⟨g2, 0, none⟩ (hS.cells 0 (by omega))) (fun x hx => by
                      rw [hS.cells (q + x) (by omega)]
                      subst hq
                      simp only [byteF, blkB, List.getD, List.getElem?_take, List.getElem?_drop]
                      rw [if_pos (by omega)]))
                  have HSNL := Lib.hid (sumN_length fr all)
                  have HSNW := Lib.hid (sumN_words fr all)
                  clear HBL HBF HWC HWL hsn0 hfl hform hbel hfbw
                  go_wp2
                  go_loopw [13] (fun s13 wr => ∃ k : Nat, 64 * k ≤ all.length ∧ s13 = .int .i64 ((64 * k : Nat) : Int) ∧ NumsAt wr hbk 50 .u64 (sumN fr all k) ∧ SrS w fb g2 all wr) (fun s _ => all.length - (intOf s).toNat)
                  case atStart => exact ⟨0, by omega, rfl, hrow, hS⟩
                  case round =>
                    clear hrow hS
                    obtain ⟨k, hk, hs13, hrow, hS⟩ := hrel
                    obtain ⟨q, hqk⟩ : ∃ q, 64 * k = q := ⟨_, rfl⟩
                    rw [hqk] at hk hs13
                    subst hs13
                    have hhl := HSNL.out k
                    by_cases hend : q = all.length
                    · have hlt : ¬ (q : Int) < (all.length : Int) := by omega
                      have hkk : all.length / 64 = k := by omega
                      have HD := Lib.hid (show res = (wordsB (sumN fr all k) 8).take m by rw [HSB.out, hkk])
                      have HWW := Lib.hid (HSNW.out k)
                      clear hend hkk hpm hk hqk HBLK0 HSB
                      generalize sumN fr all k = H at *
                      have hformz := hS.form
                      have hbelz := hS.bel
                      have hfz1 := lt_of_heap hformz
                      go_wp2
                      clear hS hlt
                      generalize wr = Wz at *
                      go_loopw [14, 15] (fun s14 s15 wq => ∃ i : Nat, i ≤ 8 ∧ s15 = .int .i64 i ∧ BufO wq Wz.heap.size s14 (valL (wordsB H i)) ∧ Below Wz.heap.size Wz wq) (fun _ s _ => 8 - (intOf s).toNat)
                      case atStart => exact ⟨0, by omega, rfl, .inl ⟨rfl, rfl⟩, Below.refl _ _⟩
                      case round =>
                        obtain ⟨i, hi, rfl, hbuf, hb⟩ := hrel
                        have hbw := hb.size
                        by_cases hi8 : i = 8
                        · have hlt8 : ¬ (i : Int) < 8 := by omega
                          subst hi8
                          have hwl8 := wordsB_length H 8
                          have hbuf2 : BufAt wr Wz.heap.size u14 (valL (wordsB H 8)) := by
                            rcases hbuf with ⟨_, h0⟩ | h0
                            · have := congrArg List.length h0
                              rw [valL_length, hwl8] at this
                              simp at this
                            · exact h0
                          obtain ⟨g3, cap3, hv, -, -, hc3, hcells3, -⟩ := hbuf2
                          rw [valL_length, hwl8] at hv hc3 hcells3
                          subst hv
                          have hmc : (m : Int) ≤ (cap3 : Int) := by omega
                          have hc0 : ¬ cap3 = 0 := by omega
                          have hst := string_of (P := Tryd.prog) wr 33 9 5 ⟨g3, 0, none⟩ m cap3 ((valL (wordsB H 8)).take m) Tryd.underlying33 Tryd.underlying5 Tryd.underlying9 (by rw [List.length_take, valL_length, hwl8]; omega) (fun j hj => by
                            have e1 : (⟨g3, 0, none⟩ : Addr).add j = ⟨g3, j, none⟩ := by simp [Addr.add]; omega
                            rw [e1, hcells3 j (by omega)]
                            simp only [List.getD, List.getElem?_take]
                            rw [if_pos hj])
                          have hres : NB ((valL (wordsB H 8)).take m) = B res := by
                            rw [HD.out, NB, List.map_take, valL_back]
                          rw [hres] at hst
                          have HB3 := Lib.hid (hbelz.trans (hb.mono hbelz.size))
                          clear hres hcells3 hbuf hb hwl8 hc3
                          go_wp2
                          go_ret
                          exact ⟨by rw [HRES.out]; rfl, HB3.out⟩
                        · have hlt8 : (i : Int) < 8 := by omega
                          have hi8' : i < 8 := by omega
                          have hf0 : wr.cell? ⟨fb, 0, none⟩ = some (.int .i64 32) := by rw [hb.cell (p := ⟨fb, 0, none⟩) hfz1, cell_of_row _ _ _ _ _ _ hformz]; rfl
                          have hvw := HWW.out i
                          have HVL := Lib.hid (show valL (wordsB H (i + 1)) = valL (wordsB H i) ++ tab (fun t => H.getD i 0 / 2 ^ (32 - 8 - 8 * t) % 256) 4 by rw [wordsB, valL_append, valL_word _ hvw])
                          have HWL8 := Lib.hid (show (valL (wordsB H i)).length = i * 4 by rw [valL_length, wordsB_length])
                          have hhc := hrow.cellv i (H.getD i 0) (by omega) rfl
                          have hkl := hrow.lt
                          have HHC := Lib.hid hhc
                          generalize H.getD i 0 = v at *
                          have HBUF := Lib.hid hbuf
                          have HB := Lib.hid hb
                          clear hbuf hb hhc
                          go_wp2
                          clear hf0
                          generalize hlf : (fun t => v / 2 ^ (32 - 8 - 8 * t) % 256) = lf at *
                          have HLF := Lib.hid (show ∀ t, lf t = v / 2 ^ (32 - 8 - 8 * t) % 256 from fun t => by rw [← hlf])
                          clear hlf
                          go_loopw [14, 16] (fun s14 s16 wq => ∃ j : Nat, j ≤ 4 ∧ s16 = .int .i64 (32 - 8 - 8 * (j : Int)) ∧ BufO wq Wz.heap.size s14 (valL (wordsB H i) ++ tab lf j) ∧ Below Wz.heap.size Wz wq) (fun _ s _ => (intOf s + 8).toNat)
                          case atStart => exact ⟨0, by omega, rfl, by simpa [tab] using HBUF.out, HB.out⟩
                          case round =>
                            clear HBUF HB
                            obtain ⟨j, hj, hs16, hbuf, hb⟩ := hrel
                            have hbw := hb.size
                            by_cases hjB : j = 4
                            · subst hjB
                              replace hs16 : u16 = .int .i64 (-8) := hs16
                              subst hs16
                              rw [← HVL.out] at hbuf
                              have HBUF := Lib.hid hbuf
                              have HB := Lib.hid hb
                              clear hbuf hb
                              go_wp2
                              go_round
                              case rel => exact ⟨i + 1, by omega, by go_num, HBUF.out, HB.out⟩
                              case measure => simp [intOf]; omega
                            · have hjl : j < 4 := by omega
                              obtain ⟨e, he⟩ : ∃ e : Nat, (32 : Int) - 8 - 8 * (j : Int) = (e : Int) := ⟨32 - 8 - 8 * j, by omega⟩
                              rw [he] at hs16
                              subst hs16
                              have he0 : 0 ≤ (e : Int) := by omega
                              have hwe : IntKind.u64.wrap (e : Int) = (e : Int) := wrap64u _ (by omega)
                              have he64 : (e : Int) < 64 := by omega
                              obtain ⟨y, hy⟩ : ∃ y, lf j = y := ⟨_, rfl⟩
                              have hvi : (v : Int) / 2 ^ e % 256 = (y : Int) := by rw [← hy, HLF.out, show 32 - 8 - 8 * j = e by omega]; simp
                              have hvw2 : IntKind.u8.wrap ((v : Int) / 2 ^ e) = (y : Int) := by rw [← hvi]; simp [IntKind.wrap, IntKind.bits, IntKind.signed]
                              have HT := Lib.hid (show valL (wordsB H i) ++ tab lf j ++ [y] = valL (wordsB H i) ++ tab lf (j + 1) by rw [tab_succ, hy, List.append_assoc])
                              have HE := Lib.hid he
                              have hll : (valL (wordsB H i) ++ tab lf j).length ≤ 1000000 := by rw [List.length_append, tab_length, HWL8.out]; omega
                              have hhc : wr.cell? ⟨hbk, i, none⟩ = some (.int .u64 ((v : Nat) : Int)) := by rw [hb.cell (p := ⟨hbk, i, none⟩) hkl]; exact HHC.out
                              have HBUF := Lib.hid hbuf
                              have HB := Lib.hid hb
                              clear hbuf hb he hy
                              go_wp2_with (at_builtin; refine RowKit.Hid.out ?_)
                              refine Lib.hid ?_
                              refine app_bufo rfl (.tmp 105) (.tmp 113) rfl (some 114) rfl Wz.heap.size _ (valL (wordsB H i) ++ tab lf j) y rfl (HBUF.out.alloc _) wr.heap.size rfl (by rw [World.cell?_alloc_new]; rfl) hll Wz (HB.out.alloc hbw _) (by simp; omega) ?_
                              intro v2 W4 hbuf2 hb4
                              rw [HT.out] at hbuf2
                              have HBUF2 := Lib.hid (show BufO W4 Wz.heap.size v2 (valL (wordsB H i) ++ tab lf (j + 1)) from .inr hbuf2)
                              have HB2 := Lib.hid hb4
                              clear hbuf2 hb4 hvi hvw2
                              go_wp2
                              go_round
                              case rel => exact ⟨j + 1, by omega, by have := HE.out; congr 1; omega, HBUF2.out, HB2.out⟩
                              case measure => simp [intOf]; omega
                    · have hlt : (q : Int) < (all.length : Int) := by omega
                      obtain ⟨q2, hq2⟩ : ∃ q2, q + 64 = q2 := ⟨_, rfl⟩
                      have hq2l : q2 ≤ all.length := by omega
                      have HBLK := Lib.hid (HBLK0.out k q · hqk (by omega))
                      have HQK := Lib.hid hqk
                      go_upto_region 24 with fail
                      have hS8 : SrS w fb g2 all wr.drew := ⟨hS.bel.drew, hS.form, hS.cells⟩
                      refine wp_region_held (S := fun W => SrS w fb g2 all W) (by kernel_rfl) ?_
                      change wpAnyH _ _ _ _ _ _ _ _ wr.drew
                      refine takeH 0 rfl rfl (some 85) rfl (.agg #[.int .i64 32, .int .i64 64, .int .u64 2, .int .u64 13, .int .u64 22, .int .u64 6, .int .u64 11, .int .u64 25, .int .u64 7, .int .u64 18, .int .u64 3, .int .u64 17, .int .u64 19, .int .u64 10]) (by kernel_rfl) (by kernel_rfl) (by kernel_rfl) (fun _ _ _ h => h) (fun w1 h1 => runFormR _ rfl rfl h1.form) hS8 ?_
                      simp only [Act.put, List.setIfInBounds_toArray, List.set_cons_zero, List.set_cons_succ]
                      refine takeH 2 rfl rfl (some 87) rfl (.slice (some ⟨g2, 0, none⟩) all.length cap2) (by kernel_rfl) (by kernel_rfl) (by kernel_rfl) (fun _ _ _ h => h) (fun _ _ => rfl) hS8 ?_
                      simp only [Act.put, List.setIfInBounds_toArray, List.set_cons_zero, List.set_cons_succ]
                      refine takeH 3 rfl rfl (some 88) rfl (.int .i64 (q : Int)) (by kernel_rfl) (by kernel_rfl) (by kernel_rfl) (fun _ _ _ h => h) (fun _ _ => rfl) hS8 ?_
                      simp only [Act.put, List.setIfInBounds_toArray, List.set_cons_zero, List.set_cons_succ]
                      refine takeH 4 rfl rfl (some 89) rfl (.int .i64 (q : Int)) (by kernel_rfl) (by kernel_rfl) (by kernel_rfl) (fun _ _ _ h => h) (fun _ _ => rfl) hS8 ?_
                      simp only [Act.put, List.setIfInBounds_toArray, List.set_cons_zero, List.set_cons_succ]
                      refine takeH 5 rfl rfl (some 90) rfl (.int .i64 64) (by kernel_rfl) (by kernel_rfl) (by kernel_rfl) (fun _ _ _ h => h) (fun _ _ => rfl) hS8 ?_
                      simp only [Act.put, List.setIfInBounds_toArray, List.set_cons_zero, List.set_cons_succ]
                      refine takeH 6 rfl rfl (some 91) rfl (.int .i64 (q2 : Int)) (by kernel_rfl) (by kernel_rfl) (by kernel_rfl) (fun _ _ _ h => h) (fun w1 _ => runAddI _ _ _ rfl rfl rfl hq2 (by omega)) hS8 ?_
                      simp only [Act.put, List.setIfInBounds_toArray, List.set_cons_zero, List.set_cons_succ]
                      refine takeH 7 rfl rfl (some 92) rfl (.slice (some ⟨g2, q, none⟩) 64 (cap2 - q)) (by kernel_rfl) (by kernel_rfl) (by kernel_rfl) (fun _ _ _ h => h) (fun w1 _ => runCut _ _ _ rfl rfl rfl rfl hq2 hq2l hcap) hS8 ?_
                      simp only [Act.put, List.setIfInBounds_toArray, List.set_cons_zero, List.set_cons_succ]
                      refine oneH 1 rfl rfl (by kernel_rfl) fun K hK => ?_
                      refine wpH_run (w' := wr.drew) (some 86) rfl (.agg (nums .u64 (sumN fr all k))) (run_load_row 50 _ rfl hbk rfl _ _ _ hrow.drew _ Tryd.underlying50 rfl (by rw [nums_size, hhl]; kernel_rfl)) ?_
                      simp only [Act.put, List.setIfInBounds_toArray, List.set_cons_zero, List.set_cons_succ]
                      refine hK _ _ hS8 fun _ => ?_
                      clear hK K
                      refine oneH 8 rfl rfl (by kernel_rfl) fun K hK => ?_
                      refine wpH_call (some 93) rfl 27 #[.agg #[.int .i64 32, .int .i64 64, .int .u64 2, .int .u64 13, .int .u64 22, .int .u64 6, .int .u64 11, .int .u64 25, .int .u64 7, .int .u64 18, .int .u64 3, .int .u64 17, .int .u64 19, .int .u64 10], .agg (nums .u64 (sumN fr all k)), .slice (some ⟨g2, q, none⟩) 64 (cap2 - q)] (by kernel_rfl) _ _ (HBLK.out wr.drew hS8) fun Wc1 hWc1 => ?_
                      simp only [Act.put, List.setIfInBounds_toArray, List.set_cons_zero, List.set_cons_succ]
                      have hSc1 := SrS.keep wr.drew Wc1 hS8 hWc1
                      refine hK _ _ hSc1 fun _ => ?_
                      clear hK K
                      have hrow9 := hrow.drew.below hWc1
                      have hhl1 := HSNL.out (k + 1)
                      have hS9 : SrS w fb g2 all (Wc1.setRow hbk (nums .u64 (sumN fr all (k + 1)))) := hSc1.setRow hbk _ hwk (by omega) (by omega)
                      refine oneH 9 rfl rfl (by kernel_rfl) fun K hK => ?_
                      refine wpH_store rfl 50 _ _ rfl hbk (nums .u64 (sumN fr all (k + 1))) (nums .u64 (sumN fr all k)) 50 rfl rfl hrow9 (by rw [nums_size, hhl1]; kernel_rfl) (by rw [nums_size, nums_size, hhl1, hhl]) (nums_oneCell _ _) ?_
                      refine hK _ _ hS9 fun _ => ?_
                      clear hK K
                      refine wpAnyH_done (by kernel_rfl) ?_ _
                      have HR9 := Lib.hid (hrow9.setRow (sumN fr all (k + 1)))
                      have HS9 := Lib.hid hS9
                      clear hS9 hrow9 hSc1 hWc1 hS8 hrow hS hhl hhl1 hqk
                      generalize Wc1.setRow hbk (nums .u64 (sumN fr all (k + 1))) = W9 at *
                      go_wp2
                      go_round
                      case rel => exact ⟨k + 1, by have := HQK.out; omega, by have := HQK.out; congr 1; omega, HR9.out, HS9.out⟩
                      case measure => simp [intOf]; omega
                · have hlt8 : (i : Int) < 8 := by omega
                  have hi8' : i < 8 := by omega
                  have hlv : l.getD i 0 = wl.getD i 0 := by rw [hl, fillN_get _ _ _ _ (by omega), if_neg (by omega)]
                  have hbf := HBF.out i hi8'
                  have hf0 : wr.cell? ⟨fb, 0, none⟩ = some (.int .i64 32) := by rw [cell_of_row _ _ _ _ _ _ hS.form]; rfl
                  have HL := Lib.hid hl
                  clear hl
                  have hcl := hrow.cellv i _ (by omega) hlv
                  have hfz := hrow.frozen i
                  have hbd : beginF fr i = wl.getD i 0 / 4294967296 := hbf
                  have hvl2 := HWL.out i
                  generalize wl.getD i 0 = v at *
                  obtain ⟨y, hy⟩ : ∃ y, beginF fr i = y := ⟨_, rfl⟩
                  have hyi : (v : Int) / 4294967296 = (y : Int) := by omega
                  have HY := Lib.hid hy
                  have hwy : IntKind.u64.wrap (y : Int) = (y : Int) := wrap64u _ (by omega)
                  have HR := Lib.hid (hrow.set i y)
                  have HS2 := Lib.hid (hS.set hbk i (.int .u64 ((y : Nat) : Int)) hwk (by omega) (by omega))
                  clear hrow hS hbf hbd hy hlv
                  go_wp2
                  go_round
                  case rel => exact ⟨i + 1, l.set i y, by omega, by go_num, by rw [fillN, ← HL.out, HY.out], HR.out, HS2.out⟩
                  case measure => simp [intOf]; omega
            · have hk8 : k < 8 := by omega
              obtain ⟨e, he⟩ : ∃ e : Nat, 56 - 8 * (k : Int) = (e : Int) := ⟨56 - 8 * k, by omega⟩
              rw [he] at hs10
              subst hs10
              have he0 : 0 ≤ (e : Int) := by omega
              have hwe : IntKind.u64.wrap (e : Int) = (e : Int) := wrap64u _ (by omega)
              have he64 : (e : Int) < 64 := by omega
              obtain ⟨y, hy⟩ : ∃ y, lenF n8 k = y := ⟨_, rfl⟩
              have hvi : (n8 : Int) / 2 ^ e % 256 = (y : Int) := by rw [← hy, lenF, show 56 - 8 * k = e by omega]; simp
              have hvw : IntKind.u8.wrap ((n8 : Int) / 2 ^ e) = (y : Int) := by rw [← hvi]; simp [IntKind.wrap, IntKind.bits, IntKind.signed]
              have HT := Lib.hid (show pre ++ tab (lenF n8) k ++ [y] = pre ++ tab (lenF n8) (k + 1) by rw [tab_succ, hy, List.append_assoc])
              have HE := Lib.hid he
              have hll : (pre ++ tab (lenF n8) k).length ≤ 1000000 := by rw [List.length_append, tab_length]; omega
              have HBUF := Lib.hid hbuf
              have HB := Lib.hid hb
              clear hbuf hb he hy
              generalize lenF n8 = lf at *
              go_wp2_with (at_builtin; refine RowKit.Hid.out ?_)
              refine Lib.hid ?_
              refine app_buf rfl (.tmp 55) (.tmp 61) rfl (some 62) rfl W1.heap.size _ (pre ++ tab lf k) y rfl (HBUF.out.alloc _) wr.heap.size rfl (by rw [World.cell?_alloc_new]; rfl) hll W1 (HB.out.alloc hbw _) (by simp; omega) ?_
              intro v2 W4 hbuf2 hb4
              rw [HT.out] at hbuf2
              have HBUF2 := Lib.hid hbuf2
              have HB2 := Lib.hid hb4
              clear hbuf2 hb4 hvi hvw
              go_wp2
              go_round
              case rel => exact ⟨k + 1, by omega, by have := HE.out; congr 1; omega, HBUF2.out, HB2.out⟩
              case measure => simp [intOf]; omega
        · exfalso; omega
    · have hne : ((r : Int) != 56) = true := by
        have h2 : ¬ r = 56 := mt hjs.1 hjp
        exact bne_iff_ne.2 fun h => h2 (Int.ofNat_inj.1 h)
      clear hjs hr
      go_wp2_with (at_builtin; refine RowKit.Hid.out ?_)
      refine Lib.hid ?_
      refine app_buf rfl (.tmp 35) (.tmp 36) rfl (some 37) rfl W1.heap.size _ (valL b ++ [128] ++ zeros j) 0 rfl (HBUF.out.alloc _) wr.heap.size rfl (by rw [World.cell?_alloc_new]; rfl) (by omega) W1 (HB.out.alloc hbw _) (by simp; omega) ?_
      intro v2 W4 hbuf2 hb4
      rw [List.append_assoc, ← zeros_succ] at hbuf2
      have hv2 : (valL b ++ [128] ++ zeros (j + 1)).length = n + 1 := by rw [List.length_append, List.length_append, hvl, zeros_length]; simp; omega
      obtain ⟨g2, cap2, hv, hrest⟩ := id hbuf2
      rw [hv2] at hv
      subst hv
      clear hrest
      have HBUF2 := Lib.hid hbuf2
      have HB2 := Lib.hid hb4
      clear hbuf2 hb4
      go_wp2
      go_round
      case rel => exact ⟨j + 1, by omega, HBUF2.out, HB2.out⟩
      case measure => simp; omega
end Go.Proofs.YtpgadpnaekhiaaaDoor.Sha32
