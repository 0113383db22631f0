/- . -/
import Derived.Test.YtnkpoddbbdmipaaGreatDoorTApSms
namespace Go.Proofs.YtnkpoddbbdmipaaGreatDoor
open Go Go.RowKit
set_option linter.unusedVariables false
set_option linter.unusedSimpArgs false
theorem cells4_of {w : World} {g p : Nat} {x0 x1 x2 x3 : Value} (h : ∀ j q, ([x0, x1, x2, x3] : List Value)[j]? = some q → w.cell? ⟨g, p + j, none⟩ = some q) : w.cell? ⟨g, p, none⟩ = some x0 ∧ w.cell? ⟨g, p + 1, none⟩ = some x1 ∧ w.cell? ⟨g, p + 2, none⟩ = some x2 ∧ w.cell? ⟨g, p + 3, none⟩ = some x3 := ⟨h 0 _ rfl, h 1 _ rfl, h 2 _ rfl, h 3 _ rfl⟩
theorem cells10_of {w : World} {g p : Nat} {x0 x1 x2 x3 x4 x5 x6 x7 x8 x9 : Value} (h : ∀ j q, ([x0, x1, x2, x3, x4, x5, x6, x7, x8, x9] : List Value)[j]? = some q → w.cell? ⟨g, p + j, none⟩ = some q) : w.cell? ⟨g, p, none⟩ = some x0 ∧ w.cell? ⟨g, p + 1, none⟩ = some x1 ∧ w.cell? ⟨g, p + 2, none⟩ = some x2 ∧ w.cell? ⟨g, p + 3, none⟩ = some x3 ∧ w.cell? ⟨g, p + 4, none⟩ = some x4 ∧ w.cell? ⟨g, p + 5, none⟩ = some x5 ∧ w.cell? ⟨g, p + 6, none⟩ = some x6 ∧ w.cell? ⟨g, p + 7, none⟩ = some x7 ∧ w.cell? ⟨g, p + 8, none⟩ = some x8 ∧ w.cell? ⟨g, p + 9, none⟩ = some x9 := ⟨h 0 _ rfl, h 1 _ rfl, h 2 _ rfl, h 3 _ rfl, h 4 _ rfl, h 5 _ rfl, h 6 _ rfl, h 7 _ rfl, h 8 _ rfl, h 9 _ rfl⟩
theorem doc_cells {w : World} {G : Nat → Prop} {d : DC} {x y : Value} (h : CellsAt w G (docC d) [x, y]) : CellAt w G (.row 4 (d.ops.map opC)) x ∧ CellAt w G (.row 3 (d.frags.map frC)) y := by
 obtain ⟨v1, us, e, h1, h⟩ := cells_cons h
 injection e with e1 e2; subst e1; subst e2
 obtain ⟨v2, us, e, h2, h⟩ := cells_cons h
 injection e with e1 e2; subst e1
 exact ⟨h1, h2⟩
end Go.Proofs.YtnkpoddbbdmipaaGreatDoor
