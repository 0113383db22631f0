/-
  DERIVED. GIVEN WITH THE SEED: THE CARDS: each row of YtgephneppgcnlaaGreatDoorRows.lean that lists a variable, with what it lists TIED to the program's text (the seventh form; the later family's looks); each row that meets fmt, with fmt's text TOLD by the authors' own Lean function (tested against real Go, not proved from fmt's source: count such statements apart). THE CARD IS WHAT COUNTS. Prove the row's statement (the work); the ties are given (YtgephneppgcnlaaGreatDoorTie.lean); close each card by the builder's one call (the guide's Derived/Test/ToyasCard.lean, 'card_holds'). Laid BY PROGRAM, IN A SANDBOX (cutbox-door.mjs). By AI agents, Wed Nov 11 2026. No macro, syntax, notation, axiom, sorry.
-/
import Derived.Test.YtgephneppgcnlaaGreatDoorRows
import GoSem.ClaimSeven
namespace Go.Proofs.YtgephneppgcnlaaGreatDoor
namespace Rows

/-- THE TIED CARD OF 'columbarylaw07.SdlFixed'. -/
def sdlFixedCard : Claim7 := { stood := { row := sdlFixedRow, standIns := [], harness := (true, "1a9f50426b84a1f8269d2540834def4024b86c09cee253c129408c178280b4e0"), looks := true }, kinds := [], alts := [], laidByText := true, laidKinds := [.data, .data, .data, .sentinel, .sentinel], laidTests := true, laidLooks := .later }
def SdlFixedCardSaid : Prop := Claim7.holds Tryz.pinned (.plain (OpenSpec.ofChange sdlFixedSpec)) sdlFixedCard

/-- THE SECOND FORM's CARD OF 'columbarylaw07.SdlFixed'. -/
def sdlFixedUptoCard : Claim7 := { stood := { row := sdlFixedUptoRow, standIns := [], harness := (true, "1a9f50426b84a1f8269d2540834def4024b86c09cee253c129408c178280b4e0"), looks := true }, kinds := [], alts := [], laidByText := true, laidKinds := [.data, .data, .data, .sentinel, .sentinel], laidTests := true, laidLooks := .later }
def SdlFixedUptoCardSaid : Prop := Claim7.holds Tryz.pinned (.plain (OpenSpec.upto sdlFixedSpec)) sdlFixedUptoCard
end Rows
end Go.Proofs.YtgephneppgcnlaaGreatDoor
