/- . -/
import Derived.Test.YtnkpoddbbdmipaaGreatDoorTTySme
import Derived.Test.YtnkpoddbbdmipaaGreatDoorTTyOwD
namespace Go.Proofs.YtnkpoddbbdmipaaGreatDoor
open Go Go.RowKit
set_option linter.unusedVariables false
set_option linter.unusedSimpArgs false
theorem doc_cells {w : World} {G : Nat → Prop} {d : DC} {x y : Value} (h : CellsAt w G (docC d) [x, y]) : CellAt w G (.row 4 (d.ops.map opC)) x ∧ CellAt w G (.row 3 (d.frags.map frC)) y := by
 obtain ⟨v1, us, e, h1, h⟩ := cells_cons h
 injection e with e1 e2; subst e1; subst e2
 obtain ⟨v2, us, e, h2, h⟩ := cells_cons h
 injection e with e1 e2; subst e1
 exact ⟨h1, h2⟩
end Go.Proofs.YtnkpoddbbdmipaaGreatDoor
