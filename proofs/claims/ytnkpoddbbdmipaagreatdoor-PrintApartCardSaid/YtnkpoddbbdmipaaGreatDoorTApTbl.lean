/- . -/
import Derived.Test.YtnkpoddbbdmipaaGreatDoorRows
import Derived.Test.YtnkpoddbbdmipaaGreatDoorTApPpv
import Derived.LaidSub
import Derived.MakeChecks
import Derived.Lib.LaidTab
namespace Go.Proofs.YtnkpoddbbdmipaaGreatDoor
open Go Go.RowKit
set_option linter.unusedVariables false
set_option linter.unusedSimpArgs false
theorem tab_of_laid {W : World} (h : laidMetH Tryz.prog Rows.printNamesRow.laid W) : Tab W := by
 have h1 := laidMetH.filter (fun x => x.1 == "internal/strconv.uint64pow10") h; have h2 : laidMetH Tryz.prog [("internal/strconv.uint64pow10", Lib.tabData .u64 Lib.pow10Tab)] W := h1; rw [MakeChecks.laidMetH_plain _ _ _ (by rfl)] at h2; exact Lib.tabIs_of_head (g := 0) (t := 165) (e := 126) (n := 20) (by kernel_rfl) (by kernel_rfl) (by kernel_rfl) (by kernel_rfl) (by kernel_rfl) (by kernel_rfl) h2
end Go.Proofs.YtnkpoddbbdmipaaGreatDoor
