/- Declarations as cells. Over no program. -/
import Derived.Test.YtgephneppgcnlaaGreatDoorEnc
import Derived.Test.YtgephneppgcnlaaGreatDoorSdP
import Derived.Test.YtgephneppgcnlaaGreatDoorEnD
namespace Go.Proofs.YtgephneppgcnlaaGreatDoor
open Go Go.RowKit
set_option linter.unusedVariables false
set_option linter.unusedSimpArgs false

def inC (i : IN) : List Cell := strC i.name :: .row 11 [] :: (trC i.t ++ boolC i.has :: valC i.v)
def fdC (f : FD) : List Cell := strC f.name :: .row 11 (f.args.map inC) :: (trC f.t ++ boolC f.has :: valC f.v)
theorem fdC_of (i : IN) : fdC (FD.of i) = inC i := rfl
def tdC (t : TD) : List Cell := [intC .u8 t.kind, strC t.name, .row 11 (t.fields.map fdC), .row 1 (t.names.map fun s => [strC s])]
theorem boxN11 {w : World} {b : Nat} {x0 x1 x2 x3 x4 x5 x6 x7 x8 x9 x10 : Value} {T : TypeId} (h : w.heap[b]? = some (.cells #[x0, x1, x2, x3, x4, x5, x6, x7, x8, x9, x10] T (0, 0))) :
    w.cell? ⟨b, 0, none⟩ = some x0 ∧ w.cell? ⟨b, 1, none⟩ = some x1 ∧ w.cell? ⟨b, 2, none⟩ = some x2 ∧ w.cell? ⟨b, 3, none⟩ = some x3 ∧ w.cell? ⟨b, 4, none⟩ = some x4 ∧ w.cell? ⟨b, 5, none⟩ = some x5 ∧ w.cell? ⟨b, 6, none⟩ = some x6 ∧ w.cell? ⟨b, 7, none⟩ = some x7 ∧ w.cell? ⟨b, 8, none⟩ = some x8 ∧ w.cell? ⟨b, 9, none⟩ = some x9 ∧ w.cell? ⟨b, 10, none⟩ = some x10 ∧ ∀ o, w.frozen? ⟨b, o, none⟩ = false := by
  refine ⟨?_, ?_, ?_, ?_, ?_, ?_, ?_, ?_, ?_, ?_, ?_, fun o => ?_⟩ <;> simp [World.cell?, World.frozen?, h]
end Go.Proofs.YtgephneppgcnlaaGreatDoor
