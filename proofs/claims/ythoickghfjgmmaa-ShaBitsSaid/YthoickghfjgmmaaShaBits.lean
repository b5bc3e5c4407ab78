/-
  ShaBits: for all whole numbers from 2 to 1000 the bits behind the point of both roots are right.
  Conditions: none.
-/
import Derived.Test.YthoickghfjgmmaaRef05d
namespace Go.Proofs.Ythoickghfjgmmaa.Ref05
open Go.ChangeShapes Go.WideShapes Go.ChangeAt Go.RowKit Go.Shelf Go.Deep
open Go.Proofs.Ythoickghfjgmmaa.Root (W)
/-- All roots from 2 to 1000. -/
theorem all_roots : ∀ n : Fin 999, ∀ c : Bool, isRoot (2 + n.val) (Root.loW (Root.most (Root.under (2 + n.val) c) 69 0)) c = true := by decide +kernel
theorem ShaBits_any (p : Nat) (cube : Bool) (w : World) (hp : p < W) : Calls Try.prog 6 #[.int .u64 p, .bool cube] w fun e w' => e = .returned (.bool true) ∧ Below w.heap.size w w' := by
  have hm : p % 999 < 999 := Nat.mod_lt _ (by omega)
  have hall := all_roots ⟨p % 999, hm⟩ cube
  simp only at hall
  have hl : Root.loW (Root.most (Root.under (2 + p % 999) cube) 69 0) < W := Nat.mod_lt _ Root.W_pos
  have hR := fun W0 => Root.Root_any (2 + p % 999) cube W0 (by unfold Root.W; omega) (by omega) (by omega)
  generalize Root.loW (Root.most (Root.under (2 + p % 999) cube) 69 0) = r at *
  have hI := fun W0 => IsRoot_any (2 + p % 999) r cube W0 (by unfold V; omega) hl
  rw [hall] at hI
  have h2 : (((2 + p % 999 : Nat) : Int)) = 2 + (p : Int) % 999 := by omega
  rw [h2] at hR hI
  have HR := Lib.hid hR
  have HI := Lib.hid hI
  clear hm hall hl hR hI h2 hp
  go_enter Try.func6, Try.ntmps6
  go_wp2_with fail
  refine (awake_any _).mono ?_
  rintro e w1 ⟨rfl, hb⟩
  go_wp2_with fail
  refine (HR.out _).mono ?_
  rintro e w2 ⟨rfl, hb2⟩
  go_wp2_with fail
  refine (HI.out _).mono ?_
  rintro e w3 ⟨rfl, hb3⟩
  go_wp2
  go_ret
  exact ⟨rfl, (hb.trans (hb2.mono hb.size)).trans (hb3.mono (Nat.le_trans hb.size hb2.size))⟩
end Go.Proofs.Ythoickghfjgmmaa.Ref05
namespace Go.Proofs.Ythoickghfjgmmaa.ShaBits
open Go.ChangeShapes Go.WideShapes Go.ChangeAt Go.RowKit
set_option maxRecDepth 100000 in
theorem walk (W : World) (base : Nat) (args : Array Value) {H : Type} {enc : TypeId × Value → H} (ds : List (DataW H)) (ps : List MemPlace)
    (hval : ∀ (j : Nat) t v, Try.f6.params[j]? = some t → args[j]? = some v → Value.okWide Try.prog W .any base t v)
    (hA : DataW.TrodAll enc Try.prog W 0 (fun _ => true) true Try.f6.params.toList args.toList ds ps) (hlt : ∀ p ∈ ps, p.block < W.heap.size) :
    Calls Try.prog 6 args W fun e W' => e = .returned (.bool true) ∧ Below W.heap.size W W' := by
  rw [Try.params6] at hA hval
  obtain ⟨v0, v1, d0, d1, p0, p1, rfl, rfl, rfl, h0, h1⟩ := trodAll_two hA
  obtain ⟨p, rfl, rfl, rfl, wp⟩ := open_int Try.underlying28 (hval 0 28 v0 rfl rfl) h0
  obtain ⟨c, rfl, rfl, rfl⟩ := open_bool Try.underlying4 (hval 1 4 v1 rfl rfl) h1
  obtain ⟨hp0, hp1⟩ := bounds_u64 wp
  obtain ⟨n, rfl⟩ := Int.eq_ofNat_of_zero_le hp0
  exact Ref05.ShaBits_any n c W (by unfold Root.W; omega)
set_option maxRecDepth 100000 in
theorem lifted (os : Os) (started : os.Started) (H : Type) (enc : TypeId × Value → H) :
    ReturnsInHanded {} Try.checked os 6 .any (Rows.shaBitsSpec.pre6 enc Try.prog Try.f6 Rows.shaBitsRow.domain false) (Rows.shaBitsSpec.post enc Try.prog Try.f6 false true false false) :=
  law_lift (C := Try.checked) (tb := 4) (by kernel_rfl) started (by kernel_rfl) Try.func6
    (ChangeSpec.witness6 (enc := enc) (C := Try.checked) false ⟨#[], #[.int .u64 0, .bool false], []⟩ 8 (by kernel_rfl) (by kernel_rfl) (by kernel_rfl) (by kernel_rfl))
    (by kernel_rfl) (by kernel_rfl) rfl (by kernel_rfl) Try.underlying4 (fun ds h => by match ds, h with | [_, _], _ => exact ⟨rfl, rfl, rfl⟩)
    (fun W base args ds ps hval hA hlt => walk W base args ds ps hval hA hlt)
theorem over : Rows.shaBitsRow.holds Try.pinned (OpenSpec.ofChange Rows.shaBitsSpec) :=
  OpenClaim.holds_of_wide 6 Try.f6 rfl rfl rfl rfl rfl rfl rfl ⟨rfl, rfl, rfl, rfl, rfl⟩ rfl rfl rfl rfl rfl (by kernel_rfl) Try.func6 (by kernel_rfl)
    (of_decide_eq_true (by kernel_rfl)) (by unfold Func.isWrapper; rw [if_neg (of_decide_eq_false (by kernel_rfl))]; exact ⟨rfl, rfl⟩)
    (fun os started H enc _ => lifted os started H enc)
theorem proved : Rows.ShaBitsSaid := over
#print axioms proved
end Go.Proofs.Ythoickghfjgmmaa.ShaBits
