/-
  What the listed variables give the walk: the library's table of powers of ten, and its two errors.
  Conditions: none.
-/
import Derived.Test.YtlbpodddokhmaaaDoorFrameL
import Derived.Test.YtlbpodddokhmaaaDoorPrs
import Derived.Stop.LaidErr
namespace Go.Proofs.YtlbpodddokhmaaaDoor
open Go.ChangeShapes Go.WideShapes Go.ChangeAt Go.RowKit Go.Lib
def laidL : List (String × DataW Unit) := [("math/bits.deBruijn32tab", Rows.laid_math_bits_deBruijn32tab), ("math/bits.deBruijn64tab", Rows.laid_math_bits_deBruijn64tab), ("internal/strconv.uint64pow10", Rows.laid_internal_strconv_uint64pow10), ("strconv.ErrRange", Rows.laid_strconv_ErrRange), ("strconv.ErrSyntax", Rows.laid_strconv_ErrSyntax)]
def GlobAt (W : World) : Prop := Fmt.Glob W
theorem pow10_data : (Rows.laid_internal_strconv_uint64pow10 : DataW Unit) = tabData .u64 pow10Tab := by kernel_rfl
theorem star_err : "*" ++ "errors.errorString" = "*errors.errorString" := by decide
set_option maxRecDepth 100000 in
theorem row_err (u : TypeId) (h : Tryd.prog.typeName? 3 u = some "*errors.errorString") : u = 95 :=
  typeName_ptr_named (nm := "errors.errorString") (by rw [star_err]; kernel_rfl) (by kernel_rfl) (by decide) u (by rw [star_err]; exact h)
set_option maxRecDepth 100000 in
theorem laid_glob {W : World} (h : laidMetH Tryd.prog laidL W) : GlobAt W := by
  rw [MakeChecks.laidMetH_plain _ _ _ (by kernel_rfl)] at h
  have h2 := h.tail.tail
  rw [pow10_data] at h2
  have hrow : ∀ u, Tryd.prog.typeName? 3 u = some "*errors.errorString" → u = 95 := row_err
  obtain ⟨a1, s1, hv1, _⟩ := laid_sentinel (g := 3) (ti := 56) (tp := 95) (te := 97) (ts := 9) h2.tail (by kernel_rfl) (by kernel_rfl) Tryd.underlying56 hrow Tryd.underlying95 Tryd.underlying97 rfl rfl Tryd.underlying9 (by kernel_rfl) (by kernel_rfl)
  obtain ⟨a2, s2, hv2, _⟩ := laid_sentinel (g := 2) (ti := 56) (tp := 95) (te := 97) (ts := 9) h2.tail.tail (by kernel_rfl) (by kernel_rfl) Tryd.underlying56 hrow Tryd.underlying95 Tryd.underlying97 rfl rfl Tryd.underlying9 (by kernel_rfl) (by kernel_rfl)
  exact ⟨tabIs_of_head (g := 1) (t := 82) (e := 23) (n := 20) (by kernel_rfl) (by kernel_rfl) Tryd.underlying82 Tryd.underlying23 (by kernel_rfl) (by kernel_rfl) h2, ⟨_, _, hv2⟩, _, _, hv1⟩
end Go.Proofs.YtlbpodddokhmaaaDoor
