/-
  The walk of the AES reference's Do.
  Conditions: bytes.
-/
import Derived.Test.YtnnoimikoddbcaaRef07d
import Derived.Test.YtnnoimikoddbcaaAes12
import Derived.BigRegion
namespace Go.Proofs.Ytnnoimikoddbcaa.Ref07
open Go.ChangeShapes Go.WideShapes Go.ChangeAt Go.RowKit Go.Deep Go.Great
open Go.Proofs.Ytnnoimikoddbcaa.Aes
theorem tab_congr {f g : Nat → Nat} {n : Nat} (h : ∀ i, i < n → f i = g i) : tab f n = tab g n := List.map_congr_left fun i hi => h i (List.mem_range.1 hi)
theorem mulB_one {a : Nat} : mulB a 1 = a := by
  rw [mulB, mulGo_odd (by omega), show (1 : Nat) / 2 = 0 from rfl, mulGo_zero, Nat.zero_xor]
theorem st0_eq (r : Nat) (ws : List Nat) (b : List UInt8) : stN r ws b 0 = tab (fun i => byteF b i ^^^ ws.getD i 0) 16 := by
  refine tab_congr fun i hi => ?_
  rw [addF, tab_get _ _ _ hi, rk, tab_get _ _ _ hi, Nat.zero_mul, Nat.zero_add]
def xF (s : List Nat) (i : Nat) : Nat := subT.getD (s.getD ((i + 4 * (i % 4)) % 16) 0) 0
theorem x_eq (s : List Nat) : tab (turnF (tab (thrF subT s) 16)) 16 = tab (xF s) 16 := by
  refine tab_congr fun i hi => ?_
  rw [turnF, tab_get _ _ _ (by omega), thrF, xF, show (i / 4 + i % 4) % 4 * 4 + i % 4 = (i + 4 * (i % 4)) % 16 by omega]
def vF (x : List Nat) (n : Nat) : Nat := mulB (x.getD n 0) 2 ^^^ mulB (x.getD (n / 4 * 4 + (n % 4 + 1) % 4) 0) 3 ^^^ x.getD (n / 4 * 4 + (n % 4 + 2) % 4) 0 ^^^ x.getD (n / 4 * 4 + (n % 4 + 3) % 4) 0
theorem v_eq (x : List Nat) (n : Nat) : mixF x [2, 3, 1, 1] n = vF x n := by
  simp only [mixF, mixJ, vF, Nat.zero_xor, Nat.add_zero, Nat.mod_mod]
  rw [show n / 4 * 4 + n % 4 = n by omega]
  show mulB _ 2 ^^^ mulB _ 3 ^^^ mulB _ 1 ^^^ mulB _ 1 = _
  rw [mulB_one, mulB_one]
def sF (r i : Nat) (ws x : List Nat) (n : Nat) : Nat := (if i < r then vF x n else x.getD n 0) ^^^ ws.getD (16 * i + n) 0
theorem stS_eq (r : Nat) (ws : List Nat) (b : List UInt8) (i : Nat) : stN r ws b (i + 1) = tab (sF r (i + 1) ws (tab (xF (stN r ws b i)) 16)) 16 := by
  show roundF r ws (i + 1) _ = _
  unfold roundF
  rw [x_eq]
  refine tab_congr fun k hk => ?_
  rw [addF, sF, rk, tab_get _ _ k hk, Nat.mul_comm 16]
  congr 1
  split
  · rw [tab_get _ _ k hk, v_eq]
  · rfl
theorem x_bytes (s : List Nat) : Bytes (tab (xF s) 16) := tab_bytes fun _ _ => subT_bytes _
theorem v_lt {x : List Nat} (h : Bytes x) (n : Nat) : vF x n < 256 := xor_lt (xor_lt (xor_lt (mulB_lt _ (h _)) (mulB_lt _ (h _))) (h _)) (h _)
set_option maxHeartbeats 3200000 in
set_option maxRecDepth 100000 in
theorem Do_any (b : List UInt8) (ws : List Nat) (v : Value) (base r : Nat) (w : World) (hb : b.length = 16) (hw : IntsAt w base v ws) (hwl : ws.length = 16 * (r + 1)) (hwb : Bytes ws) (hr : r ≤ 100) :
    Calls Try.prog 48 #[.agg (nums .i64 subT), v, .string (B b)] w fun e w' => e = .returned (.string (NB (stN r ws b r))) ∧ Below w.heap.size w w' := by
  obtain ⟨g, cap, hv, -, hg, hcap, hcapm, hcell⟩ := hw.view (by omega)
  subst hv
  have HWC := Lib.hid (show ∀ W, Below w.heap.size w W → ∀ j, j < ws.length → W.cell? ⟨g, j, none⟩ = some (.int .i64 ((ws.getD j 0 : Nat) : Int)) from fun W h j hj => by rw [h.cell (p := ⟨g, j, none⟩) hg]; exact hcell j hj)
  have HWB := Lib.hid hwb
  have HTB := Lib.hid subT_bytes
  have hTL := subT_length
  have HS0 := Lib.hid (st0_eq r ws b)
  have HSL := Lib.hid (stN_length r ws b)
  have HSB := Lib.hid (stN_bytes (r := r) hwb b)
  have HSN := Lib.hid (stS_eq r ws b)
  have HXL := Lib.hid (show ∀ s, (tab (xF s) 16).length = 16 from fun s => tab_length _ _)
  have HXB := Lib.hid x_bytes
  have HXD := Lib.hid (show ∀ s i, xF s i = subT.getD (s.getD ((i + 4 * (i % 4)) % 16) 0) 0 from fun _ _ => rfl)
  clear hcell hw hwb
  generalize subT = T at *
  generalize stN r ws b = st at *
  have hn16 : (ws.length : Int) / 16 = (r : Int) + 1 := by omega
  have HWL := Lib.hid hwl
  clear hwl
  generalize hn : ws.length = n at *
  go_enter Try.func48, Try.ntmps48
  go_wp2
  have hz : (nums .i64 (zeros 16)) = #[.int .i64 0, .int .i64 0, .int .i64 0, .int .i64 0, .int .i64 0, .int .i64 0, .int .i64 0, .int .i64 0, .int .i64 0, .int .i64 0, .int .i64 0, .int .i64 0, .int .i64 0, .int .i64 0, .int .i64 0, .int .i64 0] := by kernel_rfl
  rw [← hz]
  have htb := (NumsAt.new w 77 .i64 T).alloc (.cells (nums .i64 (zeros 16)) 106)
  have hsb := NumsAt.new (w.alloc (.cells (nums .i64 T) 77)) 106 .i64 (zeros 16)
  rw [show (w.alloc (.cells (nums .i64 T) 77)).heap.size = w.heap.size + 1 by simp] at hsb
  have hbel : Below w.heap.size w ((w.alloc (.cells (nums .i64 T) 77)).alloc (.cells (nums .i64 (zeros 16)) 106)) := by ((repeat' (with_reducible first | exact Below.refl _ _ | assumption | refine Below.drew ?_ | refine below_drewN ?_ _ | refine Below.setCell ?_ ?_ _ | refine Below.alloc ?_ ?_ _ | refine Below.ext ?_ ?_ _ | refine Below.trans ?_ (Below.mono ‹_› ?_))) <;> first | omega | (simp; done) | (simp; omega))
  generalize (w.alloc (.cells (nums .i64 T) 77)).alloc (.cells (nums .i64 (zeros 16)) 106) = W1 at *
  obtain ⟨sb, hsbe⟩ : ∃ sb, sb = w.heap.size + 1 := ⟨_, rfl⟩
  rw [← hsbe] at hsb ⊢
  have hsbl : w.heap.size < sb := by omega
  clear hsbe
  have hHR : w.heap.size = w.heap.size := rfl
  generalize htbe : w.heap.size = tb at *
  go_loopw [8] (fun s8 wr => ∃ (i : Nat) (l : List Nat), i ≤ 16 ∧ s8 = .int .i64 i ∧ l = fillN (fun i => byteF b i ^^^ ws.getD i 0) (zeros 16) i ∧ NumsAt wr tb 77 .i64 T ∧ NumsAt wr sb 106 .i64 l ∧ Below tb w wr) (fun s _ => 16 - (intOf s).toNat)
  case atStart => exact ⟨0, zeros 16, by omega, rfl, rfl, htb, hsb, hbel⟩
  case round =>
    clear htb hsb hbel W1 hz
    obtain ⟨i, l, hi, rfl, hl, htb, hsb, hbel⟩ := hrel
    have hll : l.length = 16 := by rw [hl, fillN_length, zeros_length]
    have HL := Lib.hid hl
    clear hl
    by_cases hend : i = 16
    · have hlt : ¬ (i : Int) < 16 := by omega
      have hl0 : l = st 0 := by rw [HL.out, hend, fillN_full _ (zeros_length 16), HS0.out]
      subst hl0
      clear hend HL HS0
      go_wp2
      generalize wr = W1 at *
      go_loopw [10] (fun s10 wr => ∃ k : Nat, k ≤ r ∧ s10 = .int .i64 ((k : Int) + 1) ∧ NumsAt wr tb 77 .i64 T ∧ NumsAt wr sb 106 .i64 (st k) ∧ Below tb w wr) (fun s _ => r + 1 - (intOf s).toNat)
      case atStart => exact ⟨0, by omega, rfl, htb, hsb, hbel⟩
      case round =>
        clear htb hsb hbel hll W1
        obtain ⟨k, hk, rfl, htb, hsb, hbel⟩ := hrel
        have hll := HSL.out k
        by_cases hend : k = r
        · have hlt : ¬ ((k : Int) + 1 ≤ (r : Int)) := by omega
          subst hend
          have hmk : (Instr.makeSlice 24 (.int .i64 16) (.int .i64 16)).run Try.prog wr = .ok (.slice (some ⟨wr.heap.size, 0, none⟩) 16 16) (wr.alloc (.cells (nums .u8 (zeros 16)) 5)) := by
            have h := run_make_row' (P := Try.prog) 24 5 (.int .u8 0) 1 Try.underlying24 Bld.infoByte rfl .i64 .i64 16 (by omega) (by omega) wr
            rw [show madeCells #[.int .u8 0] 16 = nums .u8 (zeros 16) by kernel_rfl] at h
            exact h
          have hHR2 := htb.lt
          have hso : sb < wr.heap.size := hsb.lt
          clear htb
          go_wp2
          have hob := NumsAt.new wr 5 .u8 (zeros 16)
          replace hsb := hsb.alloc (.cells (nums .u8 (zeros 16)) 5)
          have hbl2 := hbel.size
          replace hbel : Below tb w (wr.alloc (.cells (nums .u8 (zeros 16)) 5)) := hbel.alloc (by omega) _
          clear hmk
          generalize wr.alloc (.cells (nums .u8 (zeros 16)) 5) = W2 at *
          generalize wr.heap.size = ob at *
          clear wr hlt
          have HRES := Lib.hid (show tab (fun i => (st k).getD i 0) 16 = st k from list_ext (by rw [tab_length, hll]) fun j hj => by rw [tab_get _ _ _ (by rw [tab_length] at hj; exact hj)])
          go_loopw [18] (fun s18 wr => ∃ (i : Nat) (l : List Nat), i ≤ 16 ∧ s18 = .int .i64 i ∧ l = fillN (fun i => (st k).getD i 0) (zeros 16) i ∧ NumsAt wr ob 5 .u8 l ∧ NumsAt wr sb 106 .i64 (st k) ∧ Below tb w wr) (fun s _ => 16 - (intOf s).toNat)
          case atStart => exact ⟨0, zeros 16, by omega, rfl, rfl, hob, hsb, hbel⟩
          case round =>
            clear hob hsb hbel W2
            obtain ⟨i, l, hi, rfl, hl, hob, hsb, hbel⟩ := hrel
            have hlo : l.length = 16 := by rw [hl, fillN_length, zeros_length]
            have HL := Lib.hid hl
            clear hl
            by_cases hend : i = 16
            · have hlt : ¬ (i : Int) < 16 := by omega
              have hst := string_of (P := Try.prog) wr 24 9 5 ⟨ob, 0, none⟩ 16 16 l Try.underlying24 Try.underlying5 Try.underlying9 hlo (fun j hj => by
                have e1 : (⟨ob, 0, none⟩ : Addr).add j = ⟨ob, j, none⟩ := by simp [Addr.add]; omega
                rw [e1]; exact hob.cell j (by omega))
              have hl0 : l = st k := by rw [HL.out, hend, fillN_full _ (zeros_length 16), HRES.out]
              rw [hl0] at hst
              clear hend hl0 hob hsb
              go_wp2
              go_ret
              exact ⟨rfl, by rw [← htbe] at hbel ⊢; exact hbel⟩
            · have hlt : (i : Int) < 16 := by omega
              have hc := hsb.cell i (by omega)
              have hco := hob.cell i (by omega)
              have hf := hob.frozen i
              have hol := hob.lt
              have hyl := HSB.out k i
              have HF := Lib.hid (show (fun i => (st k).getD i 0) i = (st k).getD i 0 from rfl)
              generalize (st k).getD i 0 = y at *
              generalize l.getD i 0 = o at *
              have hyi : (y : Int) < 256 := by omega
              have HO := Lib.hid hob
              have HS := Lib.hid hsb
              clear hob hsb
              go_wp2
              go_round
              case rel =>
                refine ⟨i + 1, l.set i y, by omega, by go_num, ?_, ?_, ?_, ?_⟩
                · rw [fillN, ← HL.out, show (st k).getD i 0 = y from HF.out]
                · exact HO.out.set i _
                · exact HS.out.other ob i _ (by omega)
                · exact Below.setCell hbel (by show tb ≤ ob; omega) _
              case measure => simp [intOf]; omega
        · have hlt : (k : Int) + 1 ≤ (r : Int) := by omega
          go_upto_region 11 with fail
          rw [show (#[.int .i64 0, .int .i64 0, .int .i64 0, .int .i64 0, .int .i64 0, .int .i64 0, .int .i64 0, .int .i64 0, .int .i64 0, .int .i64 0, .int .i64 0, .int .i64 0, .int .i64 0, .int .i64 0, .int .i64 0, .int .i64 0] : Array Value) = nums .i64 (zeros 16) by kernel_rfl]
          have hxb := NumsAt.new wr 106 .i64 (zeros 16)
          have hso : sb < wr.heap.size := hsb.lt
          replace htb := htb.alloc (.cells (nums .i64 (zeros 16)) 106)
          replace hsb := hsb.alloc (.cells (nums .i64 (zeros 16)) 106)
          have hbl2 := hbel.size
          replace hbel : Below tb w (wr.alloc (.cells (nums .i64 (zeros 16)) 106)) := hbel.alloc (by omega) _
          generalize wr.alloc (.cells (nums .i64 (zeros 16)) 106) = W2 at *
          generalize wr.heap.size = xb at *
          clear wr
          have HX := Lib.hid (show ∀ i, i < 16 → xF (st k) i = T.getD ((st k).getD ((i + 4 * (i % 4)) % 16) 0) 0 from fun i _ => HXD.out _ _)
          have HSK := Lib.hid (HSB.out k)
          have hxl := HXL.out (st k)
          have hxby := HXB.out (st k)
          have HSK1 := Lib.hid (HSN.out k)
          generalize hs : st k = s at *
          have HSS := Lib.hid hs
          clear hs hlt
          go_wp2
          go_loopw [12] (fun s12 wr => ∃ (i : Nat) (l : List Nat), i ≤ 16 ∧ s12 = .int .i64 i ∧ l = fillN (xF s) (zeros 16) i ∧ NumsAt wr tb 77 .i64 T ∧ NumsAt wr sb 106 .i64 s ∧ NumsAt wr xb 106 .i64 l ∧ Below tb w wr) (fun s _ => 16 - (intOf s).toNat)
          case atStart => exact ⟨0, zeros 16, by omega, rfl, rfl, htb, hsb, hxb, hbel⟩
          case round =>
            clear htb hsb hxb hbel W2
            obtain ⟨i, l, hi, rfl, hl, htb, hsb, hxb, hbel⟩ := hrel
            have hlo : l.length = 16 := by rw [hl, fillN_length, zeros_length]
            have HL := Lib.hid hl
            clear hl
            by_cases hend16 : i = 16
            · have hlt : ¬ (i : Int) < 16 := by omega
              have hl0 : l = tab (xF s) 16 := by rw [HL.out, hend16, fillN_full _ (zeros_length 16)]
              rw [hl0] at hxb
              clear hend16 hl0 HL hlo
              have HXE := Lib.hid (show ∀ i, sF r (k + 1) ws (tab (xF s) 16) i = (if k + 1 < r then vF (tab (xF s) 16) i else (tab (xF s) 16).getD i 0) ^^^ ws.getD (16 * (k + 1) + i) 0 from fun _ => rfl)
              have HXBY := Lib.hid hxby
              generalize hX : tab (xF s) 16 = X at *
              clear hX hxby HX HXL HXB HXD
              go_wp2
              go_loopw [13] (fun s13 wr => ∃ (i : Nat) (l : List Nat), i ≤ 16 ∧ s13 = .int .i64 i ∧ l = fillN (sF r (k + 1) ws X) s i ∧ NumsAt wr tb 77 .i64 T ∧ NumsAt wr sb 106 .i64 l ∧ NumsAt wr xb 106 .i64 X ∧ Below tb w wr) (fun s _ => 16 - (intOf s).toNat)
              case atStart => exact ⟨0, s, by omega, rfl, rfl, htb, hsb, hxb, hbel⟩
              case round =>
                clear htb hsb hxb hbel
                obtain ⟨i, l, hi, rfl, hl, htb, hsb, hxb, hbel⟩ := hrel
                have hlo : l.length = 16 := by rw [hl, fillN_length, hll]
                have HL := Lib.hid hl
                clear hl
                by_cases hend16 : i = 16
                · have hlt : ¬ (i : Int) < 16 := by omega
                  have hl0 : l = st (k + 1) := by rw [HSK1.out, HL.out, hend16, fillN_full _ hll]
                  rw [hl0] at hsb
                  clear hend16 hl0 HL hlo
                  go_wp2
                  go_round
                  case rel => exact ⟨k + 1, by omega, by go_num, htb, hsb, hbel⟩
                  case measure => simp [intOf]; omega
                · have hlt : (i : Int) < 16 := by omega
                  have hlt16 : i < 16 := by omega
                  have hcx0 := hxb.cell i (by omega)
                  have hx0 := HXBY.out i
                  have hwc := HWC.out wr hbel (16 * (k + 1) + i) (by have := HWL.out; omega)
                  have hwl := HWB.out (16 * (k + 1) + i)
                  have hn1 : 16 * ((k : Int) + 1) + (i : Int) < (n : Int) := by have := HWL.out; omega
                  have hco := hsb.cell i (by omega)
                  have hf := hsb.frozen i
                  have hslt := hsb.lt
                  by_cases hlast : k + 1 < r
                  · have hl68 : (k : Int) + 1 < (r : Int) := by omega
                    have hxe := HXE.out i
                    rw [if_pos hlast, vF] at hxe
                    obtain ⟨c, hc⟩ : ∃ c, c = i / 4 * 4 := ⟨_, rfl⟩
                    obtain ⟨kk, hkk⟩ : ∃ kk, kk = i % 4 := ⟨_, rfl⟩
                    rw [← hc, ← hkk] at hxe
                    have hci : (i : Int) / 4 * 4 = (c : Int) := by omega
                    have hki : (i : Int) % 4 = (kk : Int) := by omega
                    have hcl : c ≤ 12 := by omega
                    have hkl : kk < 4 := by omega
                    obtain ⟨k1, hk1⟩ : ∃ k1, k1 = (kk + 1) % 4 := ⟨_, rfl⟩
                    obtain ⟨k2, hk2⟩ : ∃ k2, k2 = (kk + 2) % 4 := ⟨_, rfl⟩
                    obtain ⟨k3, hk3⟩ : ∃ k3, k3 = (kk + 3) % 4 := ⟨_, rfl⟩
                    rw [← hk1, ← hk2, ← hk3] at hxe
                    have hk1i : ((kk : Int) + 1) % 4 = (k1 : Int) := by omega
                    have hk2i : ((kk : Int) + 2) % 4 = (k2 : Int) := by omega
                    have hk3i : ((kk : Int) + 3) % 4 = (k3 : Int) := by omega
                    have hk1l : (c : Int) + (k1 : Int) < 16 := by omega
                    have hk2l : (c : Int) + (k2 : Int) < 16 := by omega
                    have hk3l : (c : Int) + (k3 : Int) < 16 := by omega
                    have hcx1 := hxb.cell (c + k1) (by omega)
                    have hcx2 := hxb.cell (c + k2) (by omega)
                    have hcx3 := hxb.cell (c + k3) (by omega)
                    have hx1 := HXBY.out (c + k1)
                    have hx2 := HXBY.out (c + k2)
                    have hx3 := HXBY.out (c + k3)
                    have HG := Lib.hid (And.intro hc (And.intro hkk (And.intro hk1 (And.intro hk2 hk3))))
                    clear hc hkk hk1 hk2 hk3
                    generalize X.getD i 0 = x0 at *
                    generalize X.getD (c + k1) 0 = x1 at *
                    generalize X.getD (c + k2) 0 = x2 at *
                    generalize X.getD (c + k3) 0 = x3 at *
                    generalize ws.getD (16 * (k + 1) + i) 0 = y at *
                    generalize l.getD i 0 = o at *
                    have T1 := Lib.hid (show ∀ W, Calls Try.prog 65 #[.int .i64 x0, .int .i64 2] W fun e w' => e = .returned (.int .i64 ((mulB x0 2 : Nat) : Int)) ∧ w' = W from fun W => (Times_any x0 2 W hx0 (by omega)).mono fun _ _ h => ⟨h.1, h.2.symm⟩)
                    have T2 := Lib.hid (show ∀ W, Calls Try.prog 65 #[.int .i64 x1, .int .i64 3] W fun e w' => e = .returned (.int .i64 ((mulB x1 3 : Nat) : Int)) ∧ w' = W from fun W => (Times_any x1 3 W hx1 (by omega)).mono fun _ _ h => ⟨h.1, h.2.symm⟩)
                    have hm0 := mulB_lt 2 hx0
                    have hm1 := mulB_lt 3 hx1
                    generalize mulB x0 2 = m0 at *
                    generalize mulB x1 3 = m1 at *
                    have e1 := i64_xor_nat m0 m1 (by omega) (by omega)
                    have l1 := xor_lt hm0 hm1
                    generalize m0 ^^^ m1 = y1 at *
                    have e2 := i64_xor_nat y1 x2 (by omega) (by omega)
                    have l2 := xor_lt l1 hx2
                    generalize y1 ^^^ x2 = y2 at *
                    have e3 := i64_xor_nat y2 x3 (by omega) (by omega)
                    have l3 := xor_lt l2 hx3
                    generalize y2 ^^^ x3 = y3 at *
                    have e4 := i64_xor_nat y3 y (by omega) (by omega)
                    generalize y3 ^^^ y = z at *
                    have HXI := Lib.hid hxe
                    have HT := Lib.hid htb
                    have HS := Lib.hid hsb
                    have HXX := Lib.hid hxb
                    clear hxe htb hsb hxb
                    go_upto_region 21 with fail
                    go_quiet ((go_at_call 65; with_reducible first | exact Calls.quiet_of_same (T1.out _) | exact Calls.quiet_of_same (T2.out _)))
                    have hcoN : (wr.drewN nq).cell? ⟨sb, i, none⟩ = some (.int .i64 (o : Int)) := hco
                    have hfN : (wr.drewN nq).frozen? ⟨sb, i, none⟩ = false := hf
                    go_wp2
                    go_round
                    case rel =>
                      refine ⟨i + 1, l.set i z, by omega, by go_num, ?_, ?_, ?_, ?_, ?_⟩
                      · rw [fillN, ← HL.out, HXI.out]
                      · exact NumsAt.other (w := wr.drewN nq) HT.out sb i _ (by omega)
                      · exact NumsAt.set (w := wr.drewN nq) HS.out i _
                      · exact NumsAt.other (w := wr.drewN nq) HXX.out sb i _ (by omega)
                      · exact Below.setCell (hbel.trans (Below.mono (show Below wr.heap.size wr (wr.drewN nq) from ⟨rfl, rfl, rfl, Nat.le_refl _, fun _ _ => rfl⟩) (by have := hbel.size; omega))) (by show tb ≤ sb; omega) _
                    case measure => simp [intOf]; omega
                  · have hl68 : ¬ (k : Int) + 1 < (r : Int) := by omega
                    have hxe := HXE.out i
                    rw [if_neg hlast] at hxe
                    have hxx := i64_xor_nat (X.getD i 0) (ws.getD (16 * (k + 1) + i) 0) (by omega) (by omega)
                    have HXI := Lib.hid hxe
                    clear hxe
                    generalize X.getD i 0 ^^^ ws.getD (16 * (k + 1) + i) 0 = z at *
                    generalize X.getD i 0 = x0 at *
                    generalize ws.getD (16 * (k + 1) + i) 0 = y at *
                    generalize l.getD i 0 = o at *
                    have HT := Lib.hid htb
                    have HS := Lib.hid hsb
                    have HXX := Lib.hid hxb
                    clear htb hsb hxb
                    go_wp2
                    go_round
                    case rel =>
                      refine ⟨i + 1, l.set i z, by omega, by go_num, ?_, ?_, ?_, ?_, ?_⟩
                      · rw [fillN, ← HL.out, HXI.out]
                      · exact HT.out.other sb i _ (by omega)
                      · exact HS.out.set i _
                      · exact HXX.out.other sb i _ (by omega)
                      · exact Below.setCell hbel (by show tb ≤ sb; omega) _
                    case measure => simp [intOf]; omega
            · have hlt : (i : Int) < 16 := by omega
              obtain ⟨q, hq⟩ : ∃ q, q = (i + 4 * (i % 4)) % 16 := ⟨_, rfl⟩
              have hqi : ((i : Int) + 4 * ((i : Int) % 4)) % 16 = (q : Int) := by omega
              have hql : (q : Int) < 16 := by omega
              have hql' : q < 16 := by omega
              have hxi := HX.out i (by omega)
              rw [← hq] at hxi
              have hc := hsb.cell q (by omega)
              have hcy := HSK.out q
              have hyi : ((s.getD q 0 : Nat) : Int) < 256 := by omega
              have hct := htb.cell (s.getD q 0) (by omega)
              have hcx := hxb.cell i (by omega)
              have hf := hxb.frozen i
              have hxlt := hxb.lt
              have HXI := Lib.hid hxi
              have HQ := Lib.hid hq
              clear hq hxi
              generalize s.getD q 0 = y at *
              generalize T.getD y 0 = z at *
              generalize l.getD i 0 = o at *
              have HT := Lib.hid htb
              have HS := Lib.hid hsb
              have HXX := Lib.hid hxb
              clear htb hsb hxb
              go_wp2
              go_round
              case rel =>
                refine ⟨i + 1, l.set i z, by omega, by go_num, ?_, ?_, ?_, ?_, ?_⟩
                · rw [fillN, ← HL.out, HXI.out]
                · exact HT.out.other xb i _ (by omega)
                · exact HS.out.other xb i _ (by omega)
                · exact HXX.out.set i _
                · exact Below.setCell hbel (by show tb ≤ xb; omega) _
              case measure => simp [intOf]; omega
    · have hlt : (i : Int) < 16 := by omega
      have hlb : i < b.length := by omega
      have hwc := HWC.out wr hbel i (by have := HWL.out; omega)
      have hn1 : (i : Int) < (n : Int) := by have := HWL.out; omega
      have hf := hsb.frozen i
      have hc := hsb.cell i (by omega)
      have hsl := hsb.lt
      have hy : wrap64 ((b[i].toNat : Nat) : Int) = ((byteF b i : Nat) : Int) := by
        have := b[i].toNat_lt
        simp [byteF, List.getD, hlb, wrap64]
        omega
      have hx := i64_xor_nat (byteF b i) (ws.getD i 0) (by have := byteF_lt b i; omega) (by have := HWB.out i; omega)
      have HF := Lib.hid (show (fun i => byteF b i ^^^ ws.getD i 0) i = byteF b i ^^^ ws.getD i 0 from rfl)
      generalize byteF b i ^^^ ws.getD i 0 = x at *
      generalize byteF b i = y at *
      generalize ws.getD i 0 = z at *
      generalize l.getD i 0 = o at *
      have HT := Lib.hid htb
      have HS := Lib.hid hsb
      clear htb hsb
      go_wp2
      go_region
      go_wp2
      go_round
      case rel =>
        refine ⟨i + 1, l.set i x, by omega, by go_num, ?_, ?_, ?_, ?_⟩
        · rw [fillN, ← HL.out, HF.out]
        · exact HT.out.drew.other sb i _ (by omega)
        · exact HS.out.drew.set i _
        · exact Below.setCell hbel.drew (by show tb ≤ sb; omega) _
      case measure => simp [intOf]; omega
end Go.Proofs.Ytnnoimikoddbcaa.Ref07
