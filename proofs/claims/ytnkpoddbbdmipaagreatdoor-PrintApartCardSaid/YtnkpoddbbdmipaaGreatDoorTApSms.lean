/- . -/
import Derived.Test.YtnkpoddbbdmipaaGreatDoorTApPrk
import Derived.Test.YtnkpoddbbdmipaaGreatDoorTApOwD
namespace Go.Proofs.YtnkpoddbbdmipaaGreatDoor
open Go Go.RowKit
set_option linter.unusedVariables false
set_option linter.unusedSimpArgs false
theorem cells7_of {w : World} {g p : Nat} {x0 x1 x2 x3 x4 x5 x6 : Value} (h : ∀ j q, ([x0, x1, x2, x3, x4, x5, x6] : List Value)[j]? = some q → w.cell? ⟨g, p + j, none⟩ = some q) : w.cell? ⟨g, p, none⟩ = some x0 ∧ w.cell? ⟨g, p + 1, none⟩ = some x1 ∧ w.cell? ⟨g, p + 2, none⟩ = some x2 ∧ w.cell? ⟨g, p + 3, none⟩ = some x3 ∧ w.cell? ⟨g, p + 4, none⟩ = some x4 ∧ w.cell? ⟨g, p + 5, none⟩ = some x5 ∧ w.cell? ⟨g, p + 6, none⟩ = some x6 :=
 ⟨h 0 _ rfl, h 1 _ rfl, h 2 _ rfl, h 3 _ rfl, h 4 _ rfl, h 5 _ rfl, h 6 _ rfl⟩
theorem cells2_of {w : World} {g p : Nat} {x0 x1 : Value} (h : ∀ j q, ([x0, x1] : List Value)[j]? = some q → w.cell? ⟨g, p + j, none⟩ = some q) : w.cell? ⟨g, p, none⟩ = some x0 ∧ w.cell? ⟨g, p + 1, none⟩ = some x1 := ⟨h 0 _ rfl, h 1 _ rfl⟩
theorem sizeOf_sub {l : List SL} {k : Nat} {al nm on_ : List UInt8} {gs : List AR} {ds : List DR} {sub : List SL} {i : Nat} {h : i < l.length} (e : l[i] = .mk k al nm on_ gs ds sub) : SizeOf.sizeOf sub < SizeOf.sizeOf l := by
 have := List.sizeOf_lt_of_mem (List.getElem_mem h); rw [e, SL.mk.sizeOf_spec] at this; omega
end Go.Proofs.YtnkpoddbbdmipaaGreatDoor
