/-
  What the listed variables give the walk: the library's table of powers of ten.
  Conditions: none.
-/
import Derived.Test.YthoickghfjgmmaaDoorFrameL
import Derived.Test.YthoickghfjgmmaaDoorFmt
import Derived.Stop.LaidErr
namespace Go.Proofs.YthoickghfjgmmaaDoor
open Go.ChangeShapes Go.WideShapes Go.ChangeAt Go.RowKit Go.Lib
def laidL : List (String × DataW Unit) := [("math/bits.deBruijn32tab", Rows.laid_math_bits_deBruijn32tab), ("math/bits.deBruijn64tab", Rows.laid_math_bits_deBruijn64tab), ("internal/strconv.uint64pow10", Rows.laid_internal_strconv_uint64pow10)]
def GlobAt (W : World) : Prop := Fmt.Tab W
theorem pow10_data : (Rows.laid_internal_strconv_uint64pow10 : DataW Unit) = tabData .u64 pow10Tab := by kernel_rfl
set_option maxRecDepth 100000 in
theorem laid_glob {W : World} (h : laidMetH Tryd.prog laidL W) : GlobAt W := by
  rw [MakeChecks.laidMetH_plain _ _ _ (by kernel_rfl)] at h
  have h2 := h.tail.tail
  rw [pow10_data] at h2
  exact tabIs_of_head (g := 0) (t := 61) (e := 22) (n := 20) (by kernel_rfl) (by kernel_rfl) Tryd.underlying61 Tryd.underlying22 (by kernel_rfl) (by kernel_rfl) h2
end Go.Proofs.YthoickghfjgmmaaDoor
