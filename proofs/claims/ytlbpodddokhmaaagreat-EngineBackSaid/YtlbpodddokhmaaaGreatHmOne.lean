/-
  The code of a text that is handed over in one part.
  Conditions: the package's numbers lie in memory.
-/
import Derived.Test.YtlbpodddokhmaaaGreatHm
namespace Go.Proofs.YtlbpodddokhmaaaGreat.Hm
open Go.ChangeShapes Go.WideShapes Go.ChangeAt Go.RowKit Go.Deep
open Go.Proofs.YtlbpodddokhmaaaGreat.Sha (GlobAt)
theorem joined_one (W : World) (b : Nat) (s : ByteArray) (h : W.cell? ⟨b, 0, none⟩ = some (.string s)) (hl : s.size ≤ 1000000) : Calls Tryz.prog 90 #[.slice (some ⟨b, 0, none⟩) 1 1, .string ⟨#[]⟩] W fun e w' => e = .returned (.string s) ∧ Below W.heap.size W w' := by
  have hb : b < W.heap.size := World.block_lt_of_cell? W ⟨b, 0, none⟩ h
  have := Tryz.strings_Join b 0 1 [s] ⟨#[]⟩ W (fun j x hx => by
    match j, hx with
    | 0, hx => cases hx; exact h
    | j + 1, hx => cases hx) hb (by simp) (by simp) (by
      have h2 : s.data.toList.length = s.size := rfl
      have h3 : Lib.join [s.data.toList] (ByteArray.mk #[]).data.toList = s.data.toList := by simp [Lib.join]
      rw [List.map_cons, List.map_nil, h3]
      omega)
  simpa [Lib.join] using this
/-- The code of a text in one part. -/
theorem hmac_one [Inhabited Go.Proofs.YtlbpodddokhmaaaGreat.Sha.Tabs] (size : Nat) (key t : List UInt8) (b : Nat) (w : World) (h : Good size) (hg : GlobAt w) (hk : key.length ≤ 1000000) (ht : t.length ≤ 900000) (hc : w.cell? ⟨b, 0, none⟩ = some (.string (B t))) :
    Calls Tryz.prog 82 #[.int .i64 size, .string (B key), .slice (some ⟨b, 0, none⟩) 1 1] w fun e w' => e = .returned (.string (B (hmacB size key t))) ∧ Below w.heap.size w w' :=
  hmac_any size key t _ w h hg hk ht fun W hW => joined_one W b (B t) (by rw [hW.cell (p := ⟨b, 0, none⟩) (World.block_lt_of_cell? w ⟨b, 0, none⟩ hc)]; exact hc) (by rw [B_size]; omega)
end Go.Proofs.YtlbpodddokhmaaaGreat.Hm
