/-
  ShaRoots: for the first primes the bits behind the point of both roots are the standard's numbers; for other numbers than 2 to 1000 they are 0.
  Conditions: none.
-/
import Derived.Test.YthoickghfjgmmaaRef05d
import Derived.Great.BuildSlice
import Derived.Great.Walk
import Derived.Deep.WholeRow
namespace Go.Proofs.Ythoickghfjgmmaa.Ref05
open Go.ChangeShapes Go.WideShapes Go.ChangeAt Go.RowKit Go.Shelf Go.Deep
open Go.Proofs.Ythoickghfjgmmaa.Root (W)
/-- A variable that is a whole array is made, and an array laid into it. -/
theorem keep_row {P : Program} {ops : Array Oper} {rest : List Oper} {o1 o2 : Oper} {a : Act} {w : World} {Q : Exit → Act → World → Prop} (g1 : o1.guard = none) (g2 : o2.guard = none)
    (d : Nat) (e1 : o1.dst = some d) (z c : Array Value) (t : TypeId) (x y : Operand)
    (hrun : (execOp a.eval o1).run P w = .ok (.value (.pointer (some ⟨w.heap.size, 0, none⟩))) (w.alloc (.cells z t)))
    (ho : o2.op = .store t x y) (e2 : o2.dst = none)
    (hx : (a.put (some d) (.pointer (some ⟨w.heap.size, 0, none⟩))).eval x = .pointer (some ⟨w.heap.size, 0, none⟩))
    (hy : (a.put (some d) (.pointer (some ⟨w.heap.size, 0, none⟩))).eval y = .agg c)
    (hi : (P.info? t).map (·.size) = some c.size) (hold : z.size = c.size) (h1 : c.all (·.oneCell') = true)
    (h : wpList P ops Q rest (a.put (some d) (.pointer (some ⟨w.heap.size, 0, none⟩))) (w.alloc (.cells c t))) : wpList P ops Q (o1 :: o2 :: rest) a w := by
  refine Go.Great.wpList_allocTo g1 (some d) e1 _ _ hrun ?_
  refine wpList_store_rowTo g2 t x y ho e2 w.heap.size c hx hy t z (heap_alloc_last w _) hi hold h1 ?_
  rw [World.setRow_alloc_new]
  exact h
/-- The standard's numbers, as the reference writes them. -/
def h512 : List Int := [7640891576956012808, 13503953896175478587, 4354685564936845355, 11912009170470909681, 5840696475078001361, 11170449401992604703, 2270897969802886507, 6620516959819538809]
def h384 : List Int := [14680500436340154072, 7105036623409894663, 10473403895298186519, 1526699215303891257, 7436329637833083697, 10282925794625328401, 15784041429090275239, 5167115440072839076]
def k512 : List Int := [4794697086780616226, 8158064640168781261, 13096744586834688815, 16840607885511220156, 4131703408338449720, 6480981068601479193, 10538285296894168987, 12329834152419229976, 15566598209576043074, 1334009975649890238, 2608012711638119052, 6128411473006802146, 8268148722764581231, 9286055187155687089, 11230858885718282805, 13951009754708518548, 16472876342353939154, 17275323862435702243, 1135362057144423861, 2597628984639134821, 3308224258029322869, 5365058923640841347, 6679025012923562964, 8573033837759648693, 10970295158949994411, 12119686244451234320, 12683024718118986047, 13788192230050041572, 14330467153632333762, 15395433587784984357, 489312712824947311, 1452737877330783856, 2861767655752347644, 3322285676063803686, 5560940570517711597, 5996557281743188959, 7280758554555802590, 8532644243296465576, 9350256976987008742, 10552545826968843579, 11727347734174303076, 12113106623233404929, 14000437183269869457, 14369950271660146224, 15101387698204529176, 15463397548674623760, 17586052441742319658, 1182934255886127544, 1847814050463011016, 2177327727835720531, 2830643537854262169, 3796741975233480872, 4115178125766777443, 5681478168544905931, 6601373596472566643, 7507060721942968483, 8399075790359081724, 8693463985226723168, 9568029438360202098, 10144078919501101548, 10430055236837252648, 11840083180663258601, 13761210420658862357, 14299343276471374635, 14566680578165727644, 15097957966210449927, 16922976911328602910, 17689382322260857208, 500013540394364858, 748580250866718886, 1242879168328830382, 1977374033974150939, 2944078676154940804, 3659926193048069267, 4368137639120453308, 4836135668995329356, 5532061633213252278, 6448918945643986474, 6902733635092675308, 7801388544844847127]
def words (l : List Int) : Array Value := (l.map fun n => Value.int .u64 n).toArray
set_option maxRecDepth 100000 in
theorem H512_any (w : World) : Calls Try.prog 27 #[.int .i64 512] w fun e w' => e = .returned (.agg (words h512)) ∧ Below w.heap.size w w' := by
  go_enter Try.func27, Try.ntmps27
  go_wp2
  exact bodyPost_ret (v := .agg (words h512)) (by simp [results, Try.results27, go_sem]; rfl) rfl ⟨rfl, by ((repeat' (with_reducible first | exact Below.refl _ _ | assumption | refine Below.drew ?_ | refine below_drewN ?_ _ | refine Below.setCell ?_ ?_ _ | refine Below.alloc ?_ ?_ _ | refine Below.ext ?_ ?_ _ | refine Below.trans ?_ (Below.mono ‹_› ?_))) <;> first | omega | (simp; done) | (simp; omega))⟩
set_option maxRecDepth 100000 in
theorem H384_any (w : World) : Calls Try.prog 27 #[.int .i64 384] w fun e w' => e = .returned (.agg (words h384)) ∧ Below w.heap.size w w' := by
  go_enter Try.func27, Try.ntmps27
  go_wp2
  exact bodyPost_ret (v := .agg (words h384)) (by simp [results, Try.results27, go_sem]; rfl) rfl ⟨rfl, by ((repeat' (with_reducible first | exact Below.refl _ _ | assumption | refine Below.drew ?_ | refine below_drewN ?_ _ | refine Below.setCell ?_ ?_ _ | refine Below.alloc ?_ ?_ _ | refine Below.ext ?_ ?_ _ | refine Below.trans ?_ (Below.mono ‹_› ?_))) <;> first | omega | (simp; done) | (simp; omega))⟩
def zeros (n : Nat) : Array Value := Array.replicate n (.int .u64 0)
attribute [local irreducible] wpList in
set_option maxRecDepth 100000 in
theorem K_any (w : World) : Calls Try.prog 28 #[] w fun e w' => e = .returned (.agg (words k512)) ∧ Below w.heap.size w w' := by
  go_enter Try.func28, Try.ntmps28
  apply wp_seq_k; intro K0 hK0
  apply wp_region_lit
  refine Go.Great.wpList_allocTo rfl (some 0) rfl (.pointer (some ⟨w.heap.size, 0, none⟩)) (.cells (zeros 80) 47) (by kernel_rfl) ?_
  refine wpList_frame (a' := { tmps := #[.pointer (some ⟨w.heap.size, 0, none⟩), undef], defers := [] }) (by kernel_rfl) ?_
  apply wpList_nil
  refine hK0 _ _ ?_
  clear hK0 K0
  apply wp_seq_k; intro K0 hK0
  apply wp_region_lit
  refine wpList_buildFlatArrTo rfl 47 28 80 _ rfl .u64 k512 (some 1) rfl (by kernel_rfl) (by kernel_rfl) (by kernel_rfl) (by kernel_rfl) ?_
  refine wpList_frame (a' := { tmps := #[.pointer (some ⟨w.heap.size, 0, none⟩), .agg (words k512)], defers := [] }) (by kernel_rfl) ?_
  refine wpList_store_rowTo rfl 47 _ _ rfl rfl w.heap.size (words k512) rfl rfl 47 (zeros 80) (heap_alloc_last w _) (by kernel_rfl) (by kernel_rfl) (by kernel_rfl) ?_
  apply wpList_nil
  refine hK0 _ _ ?_
  clear hK0 K0
  rw [World.setRow_alloc_new]
  refine wp_ret ?_
  exact bodyPost_ret (v := .agg (words k512)) (results_cell_row rfl _ _ w.heap.size 47 (words k512) (0, 0) (.array 80 28) rfl (heap_alloc_last w _) (by kernel_rfl) rfl (by kernel_rfl)) rfl ⟨rfl, by ((repeat' (with_reducible first | exact Below.refl _ _ | assumption | refine Below.drew ?_ | refine below_drewN ?_ _ | refine Below.setCell ?_ ?_ _ | refine Below.alloc ?_ ?_ _ | refine Below.ext ?_ ?_ _ | refine Below.trans ?_ (Below.mono ‹_› ?_))) <;> first | omega | (simp; done) | (simp; omega))⟩
def primes : Array Value := #[.int .u64 2, .int .u64 3, .int .u64 5, .int .u64 7, .int .u64 11, .int .u64 13, .int .u64 17, .int .u64 19, .int .u64 23, .int .u64 29, .int .u64 31, .int .u64 37, .int .u64 41, .int .u64 43, .int .u64 47, .int .u64 53]
theorem primes_eq : primes = #[.int .u64 2, .int .u64 3, .int .u64 5, .int .u64 7, .int .u64 11, .int .u64 13, .int .u64 17, .int .u64 19, .int .u64 23, .int .u64 29, .int .u64 31, .int .u64 37, .int .u64 41, .int .u64 43, .int .u64 47, .int .u64 53] := rfl
theorem words512 : words h512 = #[.int .u64 7640891576956012808, .int .u64 13503953896175478587, .int .u64 4354685564936845355, .int .u64 11912009170470909681, .int .u64 5840696475078001361, .int .u64 11170449401992604703, .int .u64 2270897969802886507, .int .u64 6620516959819538809] := rfl
theorem words384 : words h384 = #[.int .u64 14680500436340154072, .int .u64 7105036623409894663, .int .u64 10473403895298186519, .int .u64 1526699215303891257, .int .u64 7436329637833083697, .int .u64 10282925794625328401, .int .u64 15784041429090275239, .int .u64 5167115440072839076] := rfl

set_option maxRecDepth 100000 in
theorem ShaRoots_lo (i : Int) (p m k q r1 r2 : Nat) (w : World) (hm : i.tmod 16 = (m : Int)) (hw : wrap64 (m : Int) = (m : Int)) (h7 : ¬ 7 < (m : Int)) (h8 : (m : Int).tmod 8 = (k : Int)) (h16 : m < 16) (hk8 : k < 8) (hq : 2 ≤ q) (hq2 : q ≤ 1000) (hp : p < W)
    (hk0 : (primes : Array Value)[m]? = some (.int .u64 q)) (hk1 : (words k512)[m]? = some (.int .u64 r1)) (hk2 : (words h512)[k]? = some (.int .u64 r2))
    (e1 : Root.loW (Root.most (Root.under q true) 69 0) = r1) (e2 : Root.loW (Root.most (Root.under q false) 69 0) = r2) :
    Calls Try.prog 7 #[.int .u8 i, .int .u64 p] w fun e w' => e = .returned (.bool true) ∧ Below w.heap.size w w' := by
  have hH := H512_any
  rw [words512] at hH
  have hH3 := H384_any
  rw [words384] at hH3
  have HH := Lib.hid hH
  have HH3 := Lib.hid hH3
  have hR1 := fun W0 => Root.Root_any q true W0 (by unfold Root.W; omega) hq hq2
  have hR2 := fun W0 => Root.Root_any q false W0 (by unfold Root.W; omega) hq hq2
  rw [e1] at hR1
  rw [e2] at hR2
  have HR1 := Lib.hid hR1
  have HR2 := Lib.hid hR2
  have HP := Lib.hid hp
  clear hH hH3 hR1 hR2 e1 e2 hq hq2 hp
  go_enter Try.func7, Try.ntmps7
  go_wp2_with fail
  rw [← primes_eq]
  refine Calls.ext (HH.out _) fun u1 => ?_
  go_wp2_with fail
  rw [← words512]
  refine Calls.ext (K_any _) fun u2 => ?_
  rename_i K hK K2 hK2
  refine hK2 _ _ ?_
  refine keep_row rfl rfl 8 rfl (zeros 80) (words k512) 47 _ _ (by kernel_rfl) rfl rfl rfl rfl (by kernel_rfl) (by kernel_rfl) (by kernel_rfl) ?_
  refine wpList_nil ?_
  refine hK _ _ ?_
  clear hK2 K2 hK K
  go_wp2_with fail
  (refine wp_region_ext_lit (by kernel_rfl) (by kernel_rfl) ?_; (repeat (any_goals (first | go_big_quiet_step ((first | (go_at_call 24; with_reducible first | exact Calls.ext_of' (awake_any _) | exact Calls.ext_of (awake_any _) | exact Calls.ext_of_same' (awake_any _) | exact Calls.ext_of_same (awake_any _)) | (go_at_call 26; with_reducible first | exact Calls.ext_of' (HR1.out _) | exact Calls.ext_of (HR1.out _) | exact Calls.ext_of_same' (HR1.out _) | exact Calls.ext_of_same (HR1.out _)) | (go_at_call 26; with_reducible first | exact Calls.ext_of' (HR2.out _) | exact Calls.ext_of (HR2.out _) | exact Calls.ext_of_same' (HR2.out _) | exact Calls.ext_of_same (HR2.out _)))) | quiet_step ((first | (go_at_call 24; with_reducible first | exact Calls.ext_of' (awake_any _) | exact Calls.ext_of (awake_any _) | exact Calls.ext_of_same' (awake_any _) | exact Calls.ext_of_same (awake_any _)) | (go_at_call 26; with_reducible first | exact Calls.ext_of' (HR1.out _) | exact Calls.ext_of (HR1.out _) | exact Calls.ext_of_same' (HR1.out _) | exact Calls.ext_of_same (HR1.out _)) | (go_at_call 26; with_reducible first | exact Calls.ext_of' (HR2.out _) | exact Calls.ext_of (HR2.out _) | exact Calls.ext_of_same' (HR2.out _) | exact Calls.ext_of_same (HR2.out _))))))); refine wpQuiet_nil ?_; rintro _ ⟨u3, rfl⟩)
  have hps : p < 2 ∨ 1000 < p ∨ (2 ≤ p ∧ p ≤ 1000) := by omega
  rcases hps with h | h | ⟨ha, hb⟩
  · go_wp2_with fail
    refine Calls.ext (Root.Root_out p true _ (.inl h)) fun u4 => ?_
    go_wp2_with fail
    refine Calls.ext (Root.Root_out p false _ (.inl h)) fun u5 => ?_
    go_wp2
    go_ret
    exact ⟨rfl, by ((repeat' (with_reducible first | exact Below.refl _ _ | assumption | refine Below.drew ?_ | refine below_drewN ?_ _ | refine Below.setCell ?_ ?_ _ | refine Below.alloc ?_ ?_ _ | refine Below.ext ?_ ?_ _ | refine Below.trans ?_ (Below.mono ‹_› ?_))) <;> first | omega | (simp; done) | (simp; omega))⟩
  · go_wp2_with fail
    refine Calls.ext (Root.Root_out p true _ (.inr h)) fun u4 => ?_
    go_wp2_with fail
    refine Calls.ext (Root.Root_out p false _ (.inr h)) fun u5 => ?_
    go_wp2
    go_ret
    exact ⟨rfl, by ((repeat' (with_reducible first | exact Below.refl _ _ | assumption | refine Below.drew ?_ | refine below_drewN ?_ _ | refine Below.setCell ?_ ?_ _ | refine Below.alloc ?_ ?_ _ | refine Below.ext ?_ ?_ _ | refine Below.trans ?_ (Below.mono ‹_› ?_))) <;> first | omega | (simp; done) | (simp; omega))⟩
  · go_wp2
    go_ret
    exact ⟨rfl, by ((repeat' (with_reducible first | exact Below.refl _ _ | assumption | refine Below.drew ?_ | refine below_drewN ?_ _ | refine Below.setCell ?_ ?_ _ | refine Below.alloc ?_ ?_ _ | refine Below.ext ?_ ?_ _ | refine Below.trans ?_ (Below.mono ‹_› ?_))) <;> first | omega | (simp; done) | (simp; omega))⟩
set_option maxRecDepth 100000 in
theorem ShaRoots_hi (i : Int) (p m k q r1 r2 : Nat) (w : World) (hm : i.tmod 16 = (m : Int)) (hw : wrap64 (m : Int) = (m : Int)) (h7 : 7 < (m : Int)) (h8 : (m : Int).tmod 8 = (k : Int)) (h16 : m < 16) (hk8 : k < 8) (hq : 2 ≤ q) (hq2 : q ≤ 1000) (hp : p < W)
    (hk0 : (primes : Array Value)[m]? = some (.int .u64 q)) (hk1 : (words k512)[m]? = some (.int .u64 r1)) (hk2 : (words h384)[k]? = some (.int .u64 r2))
    (e1 : Root.loW (Root.most (Root.under q true) 69 0) = r1) (e2 : Root.loW (Root.most (Root.under q false) 69 0) = r2) :
    Calls Try.prog 7 #[.int .u8 i, .int .u64 p] w fun e w' => e = .returned (.bool true) ∧ Below w.heap.size w w' := by
  have hH := H512_any
  rw [words512] at hH
  have hH3 := H384_any
  rw [words384] at hH3
  have HH := Lib.hid hH
  have HH3 := Lib.hid hH3
  have hR1 := fun W0 => Root.Root_any q true W0 (by unfold Root.W; omega) hq hq2
  have hR2 := fun W0 => Root.Root_any q false W0 (by unfold Root.W; omega) hq hq2
  rw [e1] at hR1
  rw [e2] at hR2
  have HR1 := Lib.hid hR1
  have HR2 := Lib.hid hR2
  have HP := Lib.hid hp
  clear hH hH3 hR1 hR2 e1 e2 hq hq2 hp
  go_enter Try.func7, Try.ntmps7
  go_wp2_with fail
  rw [← primes_eq]
  refine Calls.ext (HH.out _) fun u1 => ?_
  go_wp2_with fail
  refine Calls.ext (HH3.out _) fun u6 => ?_
  go_wp2_with fail
  rw [← words384]
  refine Calls.ext (K_any _) fun u2 => ?_
  rename_i K hK K2 hK2
  refine hK2 _ _ ?_
  refine keep_row rfl rfl 8 rfl (zeros 80) (words k512) 47 _ _ (by kernel_rfl) rfl rfl rfl rfl (by kernel_rfl) (by kernel_rfl) (by kernel_rfl) ?_
  refine wpList_nil ?_
  refine hK _ _ ?_
  clear hK2 K2 hK K
  go_wp2_with fail
  (refine wp_region_ext_lit (by kernel_rfl) (by kernel_rfl) ?_; (repeat (any_goals (first | go_big_quiet_step ((first | (go_at_call 24; with_reducible first | exact Calls.ext_of' (awake_any _) | exact Calls.ext_of (awake_any _) | exact Calls.ext_of_same' (awake_any _) | exact Calls.ext_of_same (awake_any _)) | (go_at_call 26; with_reducible first | exact Calls.ext_of' (HR1.out _) | exact Calls.ext_of (HR1.out _) | exact Calls.ext_of_same' (HR1.out _) | exact Calls.ext_of_same (HR1.out _)) | (go_at_call 26; with_reducible first | exact Calls.ext_of' (HR2.out _) | exact Calls.ext_of (HR2.out _) | exact Calls.ext_of_same' (HR2.out _) | exact Calls.ext_of_same (HR2.out _)))) | quiet_step ((first | (go_at_call 24; with_reducible first | exact Calls.ext_of' (awake_any _) | exact Calls.ext_of (awake_any _) | exact Calls.ext_of_same' (awake_any _) | exact Calls.ext_of_same (awake_any _)) | (go_at_call 26; with_reducible first | exact Calls.ext_of' (HR1.out _) | exact Calls.ext_of (HR1.out _) | exact Calls.ext_of_same' (HR1.out _) | exact Calls.ext_of_same (HR1.out _)) | (go_at_call 26; with_reducible first | exact Calls.ext_of' (HR2.out _) | exact Calls.ext_of (HR2.out _) | exact Calls.ext_of_same' (HR2.out _) | exact Calls.ext_of_same (HR2.out _))))))); refine wpQuiet_nil ?_; rintro _ ⟨u3, rfl⟩)
  have hps : p < 2 ∨ 1000 < p ∨ (2 ≤ p ∧ p ≤ 1000) := by omega
  rcases hps with h | h | ⟨ha, hb⟩
  · go_wp2_with fail
    refine Calls.ext (Root.Root_out p true _ (.inl h)) fun u4 => ?_
    go_wp2_with fail
    refine Calls.ext (Root.Root_out p false _ (.inl h)) fun u5 => ?_
    go_wp2
    go_ret
    exact ⟨rfl, by ((repeat' (with_reducible first | exact Below.refl _ _ | assumption | refine Below.drew ?_ | refine below_drewN ?_ _ | refine Below.setCell ?_ ?_ _ | refine Below.alloc ?_ ?_ _ | refine Below.ext ?_ ?_ _ | refine Below.trans ?_ (Below.mono ‹_› ?_))) <;> first | omega | (simp; done) | (simp; omega))⟩
  · go_wp2_with fail
    refine Calls.ext (Root.Root_out p true _ (.inr h)) fun u4 => ?_
    go_wp2_with fail
    refine Calls.ext (Root.Root_out p false _ (.inr h)) fun u5 => ?_
    go_wp2
    go_ret
    exact ⟨rfl, by ((repeat' (with_reducible first | exact Below.refl _ _ | assumption | refine Below.drew ?_ | refine below_drewN ?_ _ | refine Below.setCell ?_ ?_ _ | refine Below.alloc ?_ ?_ _ | refine Below.ext ?_ ?_ _ | refine Below.trans ?_ (Below.mono ‹_› ?_))) <;> first | omega | (simp; done) | (simp; omega))⟩
  · go_wp2
    go_ret
    exact ⟨rfl, by ((repeat' (with_reducible first | exact Below.refl _ _ | assumption | refine Below.drew ?_ | refine below_drewN ?_ _ | refine Below.setCell ?_ ?_ _ | refine Below.alloc ?_ ?_ _ | refine Below.ext ?_ ?_ _ | refine Below.trans ?_ (Below.mono ‹_› ?_))) <;> first | omega | (simp; done) | (simp; omega))⟩
theorem ShaRoots_any (i p : Nat) (w : World) (hp : p < W) : Calls Try.prog 7 #[.int .u8 i, .int .u64 p] w fun e w' => e = .returned (.bool true) ∧ Below w.heap.size w w' := by
  have ht : (i : Int).tmod 16 = ((i % 16 : Nat) : Int) := rfl
  have hlt : i % 16 < 16 := Nat.mod_lt _ (by omega)
  have h : i % 16 = 0 ∨ i % 16 = 1 ∨ i % 16 = 2 ∨ i % 16 = 3 ∨ i % 16 = 4 ∨ i % 16 = 5 ∨ i % 16 = 6 ∨ i % 16 = 7 ∨ i % 16 = 8 ∨ i % 16 = 9 ∨ i % 16 = 10 ∨ i % 16 = 11 ∨ i % 16 = 12 ∨ i % 16 = 13 ∨ i % 16 = 14 ∨ i % 16 = 15 := by omega
  rcases h with h | h | h | h | h | h | h | h | h | h | h | h | h | h | h | h
  · exact ShaRoots_lo i p 0 0 2 4794697086780616226 7640891576956012808 w (by rw [ht, h]) (by decide +kernel) (by decide) (by decide) (by omega) (by omega) (by omega) (by omega) hp rfl rfl rfl (by decide +kernel) (by decide +kernel)
  · exact ShaRoots_lo i p 1 1 3 8158064640168781261 13503953896175478587 w (by rw [ht, h]) (by decide +kernel) (by decide) (by decide) (by omega) (by omega) (by omega) (by omega) hp rfl rfl rfl (by decide +kernel) (by decide +kernel)
  · exact ShaRoots_lo i p 2 2 5 13096744586834688815 4354685564936845355 w (by rw [ht, h]) (by decide +kernel) (by decide) (by decide) (by omega) (by omega) (by omega) (by omega) hp rfl rfl rfl (by decide +kernel) (by decide +kernel)
  · exact ShaRoots_lo i p 3 3 7 16840607885511220156 11912009170470909681 w (by rw [ht, h]) (by decide +kernel) (by decide) (by decide) (by omega) (by omega) (by omega) (by omega) hp rfl rfl rfl (by decide +kernel) (by decide +kernel)
  · exact ShaRoots_lo i p 4 4 11 4131703408338449720 5840696475078001361 w (by rw [ht, h]) (by decide +kernel) (by decide) (by decide) (by omega) (by omega) (by omega) (by omega) hp rfl rfl rfl (by decide +kernel) (by decide +kernel)
  · exact ShaRoots_lo i p 5 5 13 6480981068601479193 11170449401992604703 w (by rw [ht, h]) (by decide +kernel) (by decide) (by decide) (by omega) (by omega) (by omega) (by omega) hp rfl rfl rfl (by decide +kernel) (by decide +kernel)
  · exact ShaRoots_lo i p 6 6 17 10538285296894168987 2270897969802886507 w (by rw [ht, h]) (by decide +kernel) (by decide) (by decide) (by omega) (by omega) (by omega) (by omega) hp rfl rfl rfl (by decide +kernel) (by decide +kernel)
  · exact ShaRoots_lo i p 7 7 19 12329834152419229976 6620516959819538809 w (by rw [ht, h]) (by decide +kernel) (by decide) (by decide) (by omega) (by omega) (by omega) (by omega) hp rfl rfl rfl (by decide +kernel) (by decide +kernel)
  · exact ShaRoots_hi i p 8 0 23 15566598209576043074 14680500436340154072 w (by rw [ht, h]) (by decide +kernel) (by decide) (by decide) (by omega) (by omega) (by omega) (by omega) hp rfl rfl rfl (by decide +kernel) (by decide +kernel)
  · exact ShaRoots_hi i p 9 1 29 1334009975649890238 7105036623409894663 w (by rw [ht, h]) (by decide +kernel) (by decide) (by decide) (by omega) (by omega) (by omega) (by omega) hp rfl rfl rfl (by decide +kernel) (by decide +kernel)
  · exact ShaRoots_hi i p 10 2 31 2608012711638119052 10473403895298186519 w (by rw [ht, h]) (by decide +kernel) (by decide) (by decide) (by omega) (by omega) (by omega) (by omega) hp rfl rfl rfl (by decide +kernel) (by decide +kernel)
  · exact ShaRoots_hi i p 11 3 37 6128411473006802146 1526699215303891257 w (by rw [ht, h]) (by decide +kernel) (by decide) (by decide) (by omega) (by omega) (by omega) (by omega) hp rfl rfl rfl (by decide +kernel) (by decide +kernel)
  · exact ShaRoots_hi i p 12 4 41 8268148722764581231 7436329637833083697 w (by rw [ht, h]) (by decide +kernel) (by decide) (by decide) (by omega) (by omega) (by omega) (by omega) hp rfl rfl rfl (by decide +kernel) (by decide +kernel)
  · exact ShaRoots_hi i p 13 5 43 9286055187155687089 10282925794625328401 w (by rw [ht, h]) (by decide +kernel) (by decide) (by decide) (by omega) (by omega) (by omega) (by omega) hp rfl rfl rfl (by decide +kernel) (by decide +kernel)
  · exact ShaRoots_hi i p 14 6 47 11230858885718282805 15784041429090275239 w (by rw [ht, h]) (by decide +kernel) (by decide) (by decide) (by omega) (by omega) (by omega) (by omega) hp rfl rfl rfl (by decide +kernel) (by decide +kernel)
  · exact ShaRoots_hi i p 15 7 53 13951009754708518548 5167115440072839076 w (by rw [ht, h]) (by decide +kernel) (by decide) (by decide) (by omega) (by omega) (by omega) (by omega) hp rfl rfl rfl (by decide +kernel) (by decide +kernel)
end Go.Proofs.Ythoickghfjgmmaa.Ref05
namespace Go.Proofs.Ythoickghfjgmmaa.ShaRoots
open Go.ChangeShapes Go.WideShapes Go.ChangeAt Go.RowKit
set_option maxRecDepth 100000 in
theorem walk (W : World) (base : Nat) (args : Array Value) {H : Type} {enc : TypeId × Value → H} (ds : List (DataW H)) (ps : List MemPlace)
    (hval : ∀ (j : Nat) t v, Try.f7.params[j]? = some t → args[j]? = some v → Value.okWide Try.prog W .any base t v)
    (hA : DataW.TrodAll enc Try.prog W 0 (fun _ => true) true Try.f7.params.toList args.toList ds ps) (hlt : ∀ p ∈ ps, p.block < W.heap.size) :
    Calls Try.prog 7 args W fun e W' => e = .returned (.bool true) ∧ Below W.heap.size W W' := by
  rw [Try.params7] at hA hval
  obtain ⟨v0, v1, d0, d1, p0, p1, rfl, rfl, rfl, h0, h1⟩ := trodAll_two hA
  obtain ⟨i, rfl, rfl, rfl, wi⟩ := open_int Try.underlying5 (hval 0 5 v0 rfl rfl) h0
  obtain ⟨p, rfl, rfl, rfl, wp⟩ := open_int Try.underlying28 (hval 1 28 v1 rfl rfl) h1
  obtain ⟨hp0, hp1⟩ := bounds_u64 wp
  obtain ⟨hi0, hi1⟩ := bounds_u8 wi
  obtain ⟨n, rfl⟩ := Int.eq_ofNat_of_zero_le hp0
  obtain ⟨k, rfl⟩ := Int.eq_ofNat_of_zero_le hi0
  exact Ref05.ShaRoots_any k n W (by unfold Root.W; omega)
set_option maxRecDepth 100000 in
theorem lifted (os : Os) (started : os.Started) (H : Type) (enc : TypeId × Value → H) :
    ReturnsInHanded {} Try.checked os 7 .any (Rows.shaRootsSpec.pre6 enc Try.prog Try.f7 Rows.shaRootsRow.domain false) (Rows.shaRootsSpec.post enc Try.prog Try.f7 false true false false) :=
  law_lift (C := Try.checked) (tb := 4) (by kernel_rfl) started (by kernel_rfl) Try.func7
    (ChangeSpec.witness6 (enc := enc) (C := Try.checked) false ⟨#[], #[.int .u8 0, .int .u64 0], []⟩ 8 (by kernel_rfl) (by kernel_rfl) (by kernel_rfl) (by kernel_rfl))
    (by kernel_rfl) (by kernel_rfl) rfl (by kernel_rfl) Try.underlying4 (fun ds h => by match ds, h with | [_, _], _ => exact ⟨rfl, rfl, rfl⟩)
    (fun W base args ds ps hval hA hlt => walk W base args ds ps hval hA hlt)
theorem over : Rows.shaRootsRow.holds Try.pinned (OpenSpec.ofChange Rows.shaRootsSpec) :=
  OpenClaim.holds_of_wide 7 Try.f7 rfl rfl rfl rfl rfl rfl rfl ⟨rfl, rfl, rfl, rfl, rfl⟩ rfl rfl rfl rfl rfl (by kernel_rfl) Try.func7 (by kernel_rfl)
    (of_decide_eq_true (by kernel_rfl)) (by unfold Func.isWrapper; rw [if_neg (of_decide_eq_false (by kernel_rfl))]; exact ⟨rfl, rfl⟩)
    (fun os started H enc _ => lifted os started H enc)
theorem proved : Rows.ShaRootsSaid := over
#print axioms proved
end Go.Proofs.Ythoickghfjgmmaa.ShaRoots
