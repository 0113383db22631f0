/- . -/
import Derived.Test.YtnkpoddbbdmipaaGreatDoorUaQrp
namespace Go.Proofs.YtnkpoddbbdmipaaGreatDoor
open Go Go.RowKit
set_option linter.unusedVariables false
set_option linter.unusedSimpArgs false
theorem cells3_of {w : World} {g p : Nat} {x y z : Value} (h : ∀ j q, ([x, y, z] : List Value)[j]? = some q → w.cell? ⟨g, p + j, none⟩ = some q) : w.cell? ⟨g, p, none⟩ = some x ∧ w.cell? ⟨g, p + 1, none⟩ = some y ∧ w.cell? ⟨g, p + 2, none⟩ = some z := ⟨h 0 x rfl, h 1 y rfl, h 2 z rfl⟩
end Go.Proofs.YtnkpoddbbdmipaaGreatDoor
