/-
  SHA-2: the package's numbers as they lie in memory; the walks of number, Block, Size.
  Conditions: named at each.
-/
import Derived.Test.YtpgadpnaekhiaaaDoorBw
import Derived.Laws.OwnMore
namespace Go.Proofs.YtpgadpnaekhiaaaDoor.Sha
open Go.ChangeShapes Go.WideShapes Go.ChangeAt Go.RowKit Go.Deep
/-- The rounds' numbers. -/
def roundsL : List Nat := [4794697086780616226, 8158064640168781261, 13096744586834688815, 16840607885511220156, 4131703408338449720, 6480981068601479193, 10538285296894168987, 12329834152419229976, 15566598209576043074, 1334009975649890238, 2608012711638119052, 6128411473006802146, 8268148722764581231, 9286055187155687089, 11230858885718282805, 13951009754708518548, 16472876342353939154, 17275323862435702243, 1135362057144423861, 2597628984639134821, 3308224258029322869, 5365058923640841347, 6679025012923562964, 8573033837759648693, 10970295158949994411, 12119686244451234320, 12683024718118986047, 13788192230050041572, 14330467153632333762, 15395433587784984357, 489312712824947311, 1452737877330783856, 2861767655752347644, 3322285676063803686, 5560940570517711597, 5996557281743188959, 7280758554555802590, 8532644243296465576, 9350256976987008742, 10552545826968843579, 11727347734174303076, 12113106623233404929, 14000437183269869457, 14369950271660146224, 15101387698204529176, 15463397548674623760, 17586052441742319658, 1182934255886127544, 1847814050463011016, 2177327727835720531, 2830643537854262169, 3796741975233480872, 4115178125766777443, 5681478168544905931, 6601373596472566643, 7507060721942968483, 8399075790359081724, 8693463985226723168, 9568029438360202098, 10144078919501101548, 10430055236837252648, 11840083180663258601, 13761210420658862357, 14299343276471374635, 14566680578165727644, 15097957966210449927, 16922976911328602910, 17689382322260857208, 500013540394364858, 748580250866718886, 1242879168328830382, 1977374033974150939, 2944078676154940804, 3659926193048069267, 4368137639120453308, 4836135668995329356, 5532061633213252278, 6448918945643986474, 6902733635092675308, 7801388544844847127]
/-- What is begun with: of 512 bits, then of 384. -/
def firstsL : List Nat := [7640891576956012808, 13503953896175478587, 4354685564936845355, 11912009170470909681, 5840696475078001361, 11170449401992604703, 2270897969802886507, 6620516959819538809, 14680500436340154072, 7105036623409894663, 10473403895298186519, 1526699215303891257, 7436329637833083697, 10282925794625328401, 15784041429090275239, 5167115440072839076]
/-- The package's numbers lie in memory. -/
def GlobAt (W : World) : Prop := (∀ i, i < 80 → W.cell? ⟨1, i, none⟩ = some (.int .u64 ((roundsL.getD i 0 : Nat) : Int))) ∧ (∀ i, i < 16 → W.cell? ⟨0, i, none⟩ = some (.int .u64 ((firstsL.getD i 0 : Nat) : Int)))
theorem GlobAt.below {W W' : World} (h : GlobAt W) (hb : Below W.heap.size W W') : GlobAt W' :=
  ⟨fun i hi => by rw [hb.cell (p := ⟨1, i, none⟩) (World.block_lt_of_cell? W ⟨1, i, none⟩ (h.1 i hi))]; exact h.1 i hi,
   fun i hi => by rw [hb.cell (p := ⟨0, i, none⟩) (World.block_lt_of_cell? W ⟨0, i, none⟩ (h.2 i hi))]; exact h.2 i hi⟩
theorem GlobAt.lt {W : World} (h : GlobAt W) : 1 < W.heap.size ∧ 0 < W.heap.size :=
  ⟨World.block_lt_of_cell? W ⟨1, 0, none⟩ (h.1 0 (by omega)), World.block_lt_of_cell? W ⟨0, 0, none⟩ (h.2 0 (by omega))⟩
theorem infoByte : (Tryd.prog.info? 5).map (fun i => (i.zero, i.size, i.bytes)) = some (some (.int .u8 0), 1, 1) := by kernel_rfl
def zeros (n : Nat) : List Nat := List.replicate n 0
theorem zeros_length (n : Nat) : (zeros n).length = n := List.length_replicate
theorem made_zeros (k : IntKind) (n : Nat) : madeCells #[.int k 0] n = nums k (zeros n) :=
  Array.toList_inj.1 (by rw [toList_madeCells_one]; simp [nums, zeros])
theorem zeros_get (n i : Nat) : (zeros n).getD i 0 = 0 := by
  by_cases h : i < n
  · simp [zeros, List.getD, h]
  · simp [zeros, List.getD, h]
theorem set_zero {l : List Nat} {i : Nat} (h : i < l.length) (h0 : l.getD i 0 = 0) : l.set i 0 = l := by
  have e : l[i] = 0 := by simpa [List.getD, h] using h0
  apply List.ext_getElem (by simp)
  intro j h1 h2
  rw [List.getElem_set]
  split
  · next hij => subst hij; exact e.symm
  · rfl
/-- A number's bytes, the greatest first. -/
def numF (n size i : Nat) : Nat := if size - 1 - i < 8 then n / 2 ^ (8 * (size - 1 - i)) % 256 else 0
def numB (n size : Nat) : List UInt8 := (tab (numF n size) size).map UInt8.ofNat
theorem numB_length (n size : Nat) : (numB n size).length = size := by rw [numB, List.length_map, tab_length]
set_option maxRecDepth 100000 in
theorem number_any (n size : Nat) (w : World) (hs : size ≤ 16) : Calls Tryd.prog 43 #[.int .u64 n, .int .i64 size] w fun e w' => e = .returned (.string (B (numB n size))) ∧ Below w.heap.size w w' := by
  have hmk := run_make_row' (P := Tryd.prog) 33 5 (.int .u8 0) 1 Tryd.underlying33 infoByte rfl .i64 .i64 size (by omega) (by omega) w
  rw [made_zeros] at hmk
  have HR := Lib.hid (show numB n size = (tab (numF n size) size).map UInt8.ofNat from rfl)
  have HN := Lib.hid (show ∀ i, numF n size i = if size - 1 - i < 8 then n / 2 ^ (8 * (size - 1 - i)) % 256 else 0 from fun _ => rfl)
  generalize numB n size = res at *
  generalize numF n size = g at *
  go_enter Tryd.func43, Tryd.ntmps43
  go_wp2
  have hrow := NumsAt.new w 5 .u8 (zeros size)
  have hbel : Below w.heap.size w (w.alloc (.cells (nums .u8 (zeros size)) 5)) := by ((repeat' (with_reducible first | exact Below.refl _ _ | assumption | refine Below.drew ?_ | refine below_drewN ?_ _ | refine Below.setCell ?_ ?_ _ | refine Below.alloc ?_ ?_ _ | refine Below.ext ?_ ?_ _ | refine Below.trans ?_ (Below.mono ‹_› ?_))) <;> first | omega | (simp; done) | (simp; omega))
  clear hmk
  generalize w.alloc (.cells (nums .u8 (zeros size)) 5) = W1 at *
  go_loopw [12] (fun s12 wr => ∃ (i : Nat) (l : List Nat), i ≤ size ∧ s12 = .int .i64 i ∧ l = fillN g (zeros size) i ∧ NumsAt wr w.heap.size 5 .u8 l ∧ Below w.heap.size w wr) (fun s _ => size - (intOf s).toNat)
  case atStart => exact ⟨0, zeros size, by omega, rfl, rfl, hrow, hbel⟩
  case round =>
    clear hrow hbel W1
    obtain ⟨i, l, hi, rfl, hl, hrow, hbel⟩ := hrel
    have hll : l.length = size := by rw [hl, fillN_length, zeros_length]
    have HL := Lib.hid hl
    have HBL := Lib.hid hbel
    by_cases hend : i = size
    · have hlt : ¬ (i : Int) < (size : Int) := by omega
      have hst := string_of (P := Tryd.prog) wr 33 9 5 ⟨w.heap.size, 0, none⟩ size size l Tryd.underlying33 Tryd.underlying5 Tryd.underlying9 hll (fun j hj => by
        have e1 : (⟨w.heap.size, 0, none⟩ : Addr).add j = ⟨w.heap.size, j, none⟩ := by simp [Addr.add]; omega
        rw [e1]; exact hrow.cell j (by omega))
      have hres : NB l = B res := by
        rw [HL.out, hend, fillN_full _ (zeros_length size), HR.out]; rfl
      rw [hres] at hst
      clear hend hres hl hbel hrow
      go_wp2
      go_ret
      exact ⟨rfl, HBL.out⟩
    · have hlt : (i : Int) < (size : Int) := by omega
      have hlo : l.getD i 0 = 0 := by
        rw [hl, fillN_get _ _ _ _ (by rw [zeros_length]; omega), if_neg (by omega), zeros_get]
      have hc := hrow.cellv i 0 (by omega) hlo
      have hf := hrow.frozen i
      have hbl := hrow.lt
      obtain ⟨k, hk⟩ : ∃ k, k = size - 1 - i := ⟨_, rfl⟩
      have hki : (size : Int) - 1 - (i : Int) = (k : Int) := by omega
      have hk16 : k ≤ 16 := by omega
      have hgn := HN.out i
      rw [← hk] at hgn
      have HROW := Lib.hid hrow
      have HLO := Lib.hid hlo
      clear hl hlo hrow hbel
      have HK := Lib.hid hk
      clear hk
      by_cases hk8 : k < 8
      · have hk8i : (k : Int) < 8 := by omega
        rw [if_pos hk8] at hgn
        have hvi : (n : Int) / 2 ^ (8 * k) % 256 = ((g i : Nat) : Int) := by rw [hgn]; simp
        have HG := Lib.hid hgn
        clear hgn
        generalize hgv : g i = v at *
        have HGV := Lib.hid hgv
        clear hgv
        go_wp2
        go_round
        case rel => exact ⟨i + 1, l.set i v, by omega, by go_num, by rw [fillN, ← HL.out, HGV.out], HROW.out.set i v, Below.setCell HBL.out (Nat.le_refl _) _⟩
        case measure => simp [intOf]; omega
      · have hk8i : ¬ (k : Int) < 8 := by omega
        rw [if_neg hk8] at hgn
        have HG := Lib.hid hgn
        clear hgn
        go_wp2
        go_round
        case rel =>
          refine ⟨i + 1, l, by omega, by go_num, ?_, HROW.out, HBL.out⟩
          rw [fillN, ← HL.out, HG.out, set_zero (by omega) HLO.out]
        case measure => simp [intOf]; omega
end Go.Proofs.YtpgadpnaekhiaaaDoor.Sha
