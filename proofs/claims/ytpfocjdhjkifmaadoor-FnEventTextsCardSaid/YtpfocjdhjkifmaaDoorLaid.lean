/- What the cards' listed variables give to the walks. Conditions: none of its own. -/
import Derived.Test.YtpfocjdhjkifmaaDoorFmtI
import Derived.Test.YtpfocjdhjkifmaaDoorNamA
import Derived.Test.YtpfocjdhjkifmaaDoorShp
import Derived.Test.YtpfocjdhjkifmaaDoorRows
import Derived.Lib.LaidTab
import Derived.Lay
import Derived.LaidSub
import Derived.LaidMore
namespace Go.Proofs.YtpfocjdhjkifmaaDoor
open Go.RowKit
set_option linter.unusedVariables false

/-- A part of what is listed. -/
theorem laid_part {W : World} {p q : List (String × DataW Unit)} {keep : String → Bool} (hq : (p.filter fun x => keep x.1) = q) (h : laidMetH Tryd.prog p W) : laidMetH Tryd.prog q W := by
  rw [← hq]; exact h.filter _
abbrev lPow : List (String × DataW Unit) := [("internal/strconv.uint64pow10", Rows.laid_internal_strconv_uint64pow10)]
theorem pow_of {W : World} (h : laidMetH Tryd.prog lPow W) : Pow10 W := by
  rw [MakeChecks.laidMetH_plain _ _ _ (by kernel_rfl)] at h
  exact Lib.tabIs_of_head (g := 3) (t := 136) (e := 120) (n := 20) (by kernel_rfl) (by kernel_rfl) (by kernel_rfl) (by kernel_rfl) (by kernel_rfl) (by kernel_rfl) h
theorem maxl_of {W : World} (h : W.ShapedOpen Tryd.prog) : MaxL W :=
  cell_of_shapedOpen_int (g := 2) (t := 3) (zero := #[.int .i64 0]) h (of_decide_eq_true (by kernel_rfl)) (by kernel_rfl) rfl (by kernel_rfl) (by kernel_rfl) (by kernel_rfl)
end Go.Proofs.YtpfocjdhjkifmaaDoor
