/-
  DERIVED. GIVEN WITH THE SEED: THE CARDS: each row of YtnkpoddbbdmipaaGreatDoorRows.lean that lists a variable, with what it lists TIED to the program's text (the seventh form; the later family's looks); each row that meets fmt, with fmt's text TOLD by the authors' own Lean function (tested against real Go, not proved from fmt's source: count such statements apart). THE CARD IS WHAT COUNTS. Prove the row's statement (the work); the ties are given (YtnkpoddbbdmipaaGreatDoorTie.lean); close each card by the builder's one call (the guide's Derived/Test/ToyasCard.lean, 'card_holds'). Laid BY PROGRAM, IN A SANDBOX (cutbox-door.mjs). By AI agents, Wed Nov 11 2026. No macro, syntax, notation, axiom, sorry.
-/
import Derived.Test.YtnkpoddbbdmipaaGreatDoorRows
import GoSem.ClaimSeven
namespace Go.Proofs.YtnkpoddbbdmipaaGreatDoor
namespace Rows

/-- THE TIED CARD OF 'columbarylaw08.PrintDocuments'. -/
def printDocumentsCard : Claim7 := { stood := { row := printDocumentsRow, standIns := [], harness := (true, "1b47007ee0698267383912af1bf86626c2d335949f94fbcaafddf1b82c6fba8b"), looks := true }, kinds := [], alts := [], laidByText := true, laidKinds := [.data, .data, .data], laidTests := true, laidLooks := .later }
def PrintDocumentsCardSaid : Prop := Claim7.holds Tryz.pinned (.plain (OpenSpec.ofChange printDocumentsSpec)) printDocumentsCard

/-- THE TIED CARD OF 'columbarylaw08.PrintValues'. -/
def printValuesCard : Claim7 := { stood := { row := printValuesRow, standIns := [], harness := (true, "1b47007ee0698267383912af1bf86626c2d335949f94fbcaafddf1b82c6fba8b"), looks := true }, kinds := [], alts := [], laidByText := true, laidKinds := [.data, .data, .data], laidTests := true, laidLooks := .later }
def PrintValuesCardSaid : Prop := Claim7.holds Tryz.pinned (.plain (OpenSpec.ofChange printValuesSpec)) printValuesCard

/-- THE TIED CARD OF 'columbarylaw08.PrintNames'. -/
def printNamesCard : Claim7 := { stood := { row := printNamesRow, standIns := [], harness := (true, "1b47007ee0698267383912af1bf86626c2d335949f94fbcaafddf1b82c6fba8b"), looks := true }, kinds := [], alts := [], laidByText := true, laidKinds := [.data, .data, .data], laidTests := true, laidLooks := .later }
def PrintNamesCardSaid : Prop := Claim7.holds Tryz.pinned (.plain (OpenSpec.ofChange printNamesSpec)) printNamesCard

/-- THE TIED CARD OF 'columbarylaw08.PrintQuotes'. -/
def printQuotesCard : Claim7 := { stood := { row := printQuotesRow, standIns := [], harness := (true, "1b47007ee0698267383912af1bf86626c2d335949f94fbcaafddf1b82c6fba8b"), looks := true }, kinds := [], alts := [], laidByText := true, laidKinds := [.data, .data, .data], laidTests := true, laidLooks := .later }
def PrintQuotesCardSaid : Prop := Claim7.holds Tryz.pinned (.plain (OpenSpec.ofChange printQuotesSpec)) printQuotesCard

/-- THE TIED CARD OF 'columbarylaw08.PrintApart'. -/
def printApartCard : Claim7 := { stood := { row := printApartRow, standIns := [], harness := (true, "1b47007ee0698267383912af1bf86626c2d335949f94fbcaafddf1b82c6fba8b"), looks := true }, kinds := [], alts := [], laidByText := true, laidKinds := [.data, .data, .data], laidTests := true, laidLooks := .later }
def PrintApartCardSaid : Prop := Claim7.holds Tryz.pinned (.plain (OpenSpec.ofChange printApartSpec)) printApartCard

/-- THE TIED CARD OF 'columbarylaw08.PrintRefs'. -/
def printRefsCard : Claim7 := { stood := { row := printRefsRow, standIns := [], harness := (true, "1b47007ee0698267383912af1bf86626c2d335949f94fbcaafddf1b82c6fba8b"), looks := true }, kinds := [], alts := [], laidByText := true, laidKinds := [.data, .data, .data], laidTests := true, laidLooks := .later }
def PrintRefsCardSaid : Prop := Claim7.holds Tryz.pinned (.plain (OpenSpec.ofChange printRefsSpec)) printRefsCard

/-- THE TIED CARD OF 'columbarylaw08.PrintTypes'. -/
def printTypesCard : Claim7 := { stood := { row := printTypesRow, standIns := [], harness := (true, "1b47007ee0698267383912af1bf86626c2d335949f94fbcaafddf1b82c6fba8b"), looks := true }, kinds := [], alts := [], laidByText := true, laidKinds := [.data, .data, .data], laidTests := true, laidLooks := .later }
def PrintTypesCardSaid : Prop := Claim7.holds Tryz.pinned (.plain (OpenSpec.ofChange printTypesSpec)) printTypesCard

/-- THE TIED CARD OF 'columbarylaw08.PrintKinds'. -/
def printKindsCard : Claim7 := { stood := { row := printKindsRow, standIns := [], harness := (true, "1b47007ee0698267383912af1bf86626c2d335949f94fbcaafddf1b82c6fba8b"), looks := true }, kinds := [], alts := [], laidByText := true, laidKinds := [.data, .data, .data], laidTests := true, laidLooks := .later }
def PrintKindsCardSaid : Prop := Claim7.holds Tryz.pinned (.plain (OpenSpec.ofChange printKindsSpec)) printKindsCard

/-- THE SECOND FORM's CARD OF 'columbarylaw08.PrintDocuments'. -/
def printDocumentsUptoCard : Claim7 := { stood := { row := printDocumentsUptoRow, standIns := [], harness := (true, "1b47007ee0698267383912af1bf86626c2d335949f94fbcaafddf1b82c6fba8b"), looks := true }, kinds := [], alts := [], laidByText := true, laidKinds := [.data, .data, .data], laidTests := true, laidLooks := .later }
def PrintDocumentsUptoCardSaid : Prop := Claim7.holds Tryz.pinned (.plain (OpenSpec.upto printDocumentsSpec)) printDocumentsUptoCard

/-- THE SECOND FORM's CARD OF 'columbarylaw08.PrintValues'. -/
def printValuesUptoCard : Claim7 := { stood := { row := printValuesUptoRow, standIns := [], harness := (true, "1b47007ee0698267383912af1bf86626c2d335949f94fbcaafddf1b82c6fba8b"), looks := true }, kinds := [], alts := [], laidByText := true, laidKinds := [.data, .data, .data], laidTests := true, laidLooks := .later }
def PrintValuesUptoCardSaid : Prop := Claim7.holds Tryz.pinned (.plain (OpenSpec.upto printValuesSpec)) printValuesUptoCard

/-- THE SECOND FORM's CARD OF 'columbarylaw08.PrintNames'. -/
def printNamesUptoCard : Claim7 := { stood := { row := printNamesUptoRow, standIns := [], harness := (true, "1b47007ee0698267383912af1bf86626c2d335949f94fbcaafddf1b82c6fba8b"), looks := true }, kinds := [], alts := [], laidByText := true, laidKinds := [.data, .data, .data], laidTests := true, laidLooks := .later }
def PrintNamesUptoCardSaid : Prop := Claim7.holds Tryz.pinned (.plain (OpenSpec.upto printNamesSpec)) printNamesUptoCard

/-- THE SECOND FORM's CARD OF 'columbarylaw08.PrintQuotes'. -/
def printQuotesUptoCard : Claim7 := { stood := { row := printQuotesUptoRow, standIns := [], harness := (true, "1b47007ee0698267383912af1bf86626c2d335949f94fbcaafddf1b82c6fba8b"), looks := true }, kinds := [], alts := [], laidByText := true, laidKinds := [.data, .data, .data], laidTests := true, laidLooks := .later }
def PrintQuotesUptoCardSaid : Prop := Claim7.holds Tryz.pinned (.plain (OpenSpec.upto printQuotesSpec)) printQuotesUptoCard

/-- THE SECOND FORM's CARD OF 'columbarylaw08.PrintApart'. -/
def printApartUptoCard : Claim7 := { stood := { row := printApartUptoRow, standIns := [], harness := (true, "1b47007ee0698267383912af1bf86626c2d335949f94fbcaafddf1b82c6fba8b"), looks := true }, kinds := [], alts := [], laidByText := true, laidKinds := [.data, .data, .data], laidTests := true, laidLooks := .later }
def PrintApartUptoCardSaid : Prop := Claim7.holds Tryz.pinned (.plain (OpenSpec.upto printApartSpec)) printApartUptoCard

/-- THE SECOND FORM's CARD OF 'columbarylaw08.PrintRefs'. -/
def printRefsUptoCard : Claim7 := { stood := { row := printRefsUptoRow, standIns := [], harness := (true, "1b47007ee0698267383912af1bf86626c2d335949f94fbcaafddf1b82c6fba8b"), looks := true }, kinds := [], alts := [], laidByText := true, laidKinds := [.data, .data, .data], laidTests := true, laidLooks := .later }
def PrintRefsUptoCardSaid : Prop := Claim7.holds Tryz.pinned (.plain (OpenSpec.upto printRefsSpec)) printRefsUptoCard

/-- THE SECOND FORM's CARD OF 'columbarylaw08.PrintTypes'. -/
def printTypesUptoCard : Claim7 := { stood := { row := printTypesUptoRow, standIns := [], harness := (true, "1b47007ee0698267383912af1bf86626c2d335949f94fbcaafddf1b82c6fba8b"), looks := true }, kinds := [], alts := [], laidByText := true, laidKinds := [.data, .data, .data], laidTests := true, laidLooks := .later }
def PrintTypesUptoCardSaid : Prop := Claim7.holds Tryz.pinned (.plain (OpenSpec.upto printTypesSpec)) printTypesUptoCard

/-- THE SECOND FORM's CARD OF 'columbarylaw08.PrintKinds'. -/
def printKindsUptoCard : Claim7 := { stood := { row := printKindsUptoRow, standIns := [], harness := (true, "1b47007ee0698267383912af1bf86626c2d335949f94fbcaafddf1b82c6fba8b"), looks := true }, kinds := [], alts := [], laidByText := true, laidKinds := [.data, .data, .data], laidTests := true, laidLooks := .later }
def PrintKindsUptoCardSaid : Prop := Claim7.holds Tryz.pinned (.plain (OpenSpec.upto printKindsSpec)) printKindsUptoCard
end Rows
end Go.Proofs.YtnkpoddbbdmipaaGreatDoor
