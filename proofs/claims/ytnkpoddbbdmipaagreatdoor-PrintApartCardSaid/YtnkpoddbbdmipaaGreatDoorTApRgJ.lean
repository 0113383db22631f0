/- . -/
import Derived.Test.YtnkpoddbbdmipaaGreatDoorTApRgA
namespace Go.Proofs.YtnkpoddbbdmipaaGreatDoor
open Go Go.RowKit
set_option linter.unusedVariables false
set_option linter.unusedSimpArgs false
section
variable {P : Program} {ops : Array Oper} {Q : Exit → Act → World → Prop}
abbrev RelJ := List Value → Value → World → Prop
def StableJ (F : Nat → Prop) (r : RelJ) : Prop := ∀ ys v w w', r ys v w → Only F w w' → r ys v w'
theorem StableJ.is (F : Nat → Prop) (c : List Value → Value) : StableJ F (fun ys v _ => v = c ys) := fun _ _ _ _ h _ => h
end
end Go.Proofs.YtnkpoddbbdmipaaGreatDoor
