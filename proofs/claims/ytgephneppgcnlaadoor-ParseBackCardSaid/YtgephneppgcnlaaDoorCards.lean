/-
  DERIVED. GIVEN WITH THE SEED: THE CARDS: each row of YtgephneppgcnlaaDoorRows.lean that lists a variable, with what it lists TIED to the program's text (the seventh form; the later family's looks); each row that meets fmt, with fmt's text TOLD by the authors' own Lean function (tested against real Go, not proved from fmt's source: count such statements apart). THE CARD IS WHAT COUNTS. Prove the row's statement (the work); the ties are given (YtgephneppgcnlaaDoorTie.lean); close each card by the builder's one call (the guide's Derived/Test/ToyasCard.lean, 'card_holds'). Laid BY PROGRAM, IN A SANDBOX (cutbox-door.mjs). By AI agents, Wed Nov 11 2026. No macro, syntax, notation, axiom, sorry.
-/
import Derived.Test.YtgephneppgcnlaaDoorRows
import GoSem.ClaimSeven
namespace Go.Proofs.YtgephneppgcnlaaDoor
namespace Rows

/-- THE TIED CARD OF 'columbarylaw06.ParseBack'. -/
def parseBackCard : Claim7 := { stood := { row := parseBackRow, standIns := [], harness := (true, "bc8dbb6d317441637b143631a231e204564dfa267b0bbbad5839ed59eb86e4b4"), looks := true }, kinds := [], alts := [], laidByText := true, laidKinds := [.data, .data, .data, .sentinel, .sentinel], laidTests := true, laidLooks := .later }
def ParseBackCardSaid : Prop := Claim7.holds Tryd.pinned (.plain (OpenSpec.ofChange parseBackSpec)) parseBackCard

/-- THE TIED CARD OF 'columbarylaw06.ParseJoins'. -/
def parseJoinsCard : Claim7 := { stood := { row := parseJoinsRow, standIns := [], harness := (true, "bc8dbb6d317441637b143631a231e204564dfa267b0bbbad5839ed59eb86e4b4"), looks := true }, kinds := [], alts := [], laidByText := true, laidKinds := [.data, .data, .data, .sentinel, .sentinel], laidTests := true, laidLooks := .later }
def ParseJoinsCardSaid : Prop := Claim7.holds Tryd.pinned (.plain (OpenSpec.ofChange parseJoinsSpec)) parseJoinsCard

/-- THE TIED CARD OF 'columbarylaw06.ParseDeep'. -/
def parseDeepCard : Claim7 := { stood := { row := parseDeepRow, standIns := [], harness := (true, "bc8dbb6d317441637b143631a231e204564dfa267b0bbbad5839ed59eb86e4b4"), looks := true }, kinds := [], alts := [], laidByText := true, laidKinds := [.data, .data, .data, .sentinel, .sentinel], laidTests := true, laidLooks := .later }
def ParseDeepCardSaid : Prop := Claim7.holds Tryd.pinned (.plain (OpenSpec.ofChange parseDeepSpec)) parseDeepCard

/-- THE TIED CARD OF 'columbarylaw06.ParseWords'. -/
def parseWordsCard : Claim7 := { stood := { row := parseWordsRow, standIns := [], harness := (true, "bc8dbb6d317441637b143631a231e204564dfa267b0bbbad5839ed59eb86e4b4"), looks := true }, kinds := [], alts := [], laidByText := true, laidKinds := [.data, .data, .data, .sentinel, .sentinel], laidTests := true, laidLooks := .later }
def ParseWordsCardSaid : Prop := Claim7.holds Tryd.pinned (.plain (OpenSpec.ofChange parseWordsSpec)) parseWordsCard

/-- THE TIED CARD OF 'columbarylaw06.ParseBlanks'. -/
def parseBlanksCard : Claim7 := { stood := { row := parseBlanksRow, standIns := [], harness := (true, "bc8dbb6d317441637b143631a231e204564dfa267b0bbbad5839ed59eb86e4b4"), looks := true }, kinds := [], alts := [], laidByText := true, laidKinds := [.data, .data, .data, .sentinel, .sentinel], laidTests := true, laidLooks := .later }
def ParseBlanksCardSaid : Prop := Claim7.holds Tryd.pinned (.plain (OpenSpec.ofChange parseBlanksSpec)) parseBlanksCard

/-- THE TIED CARD OF 'columbarylaw06.ParseCut'. -/
def parseCutCard : Claim7 := { stood := { row := parseCutRow, standIns := [], harness := (true, "bc8dbb6d317441637b143631a231e204564dfa267b0bbbad5839ed59eb86e4b4"), looks := true }, kinds := [], alts := [], laidByText := true, laidKinds := [.data, .data, .data, .sentinel, .sentinel], laidTests := true, laidLooks := .later }
def ParseCutCardSaid : Prop := Claim7.holds Tryd.pinned (.plain (OpenSpec.ofChange parseCutSpec)) parseCutCard

/-- THE TIED CARD OF 'columbarylaw07.SdlBack'. -/
def sdlBackCard : Claim7 := { stood := { row := sdlBackRow, standIns := [], harness := (true, "bc8dbb6d317441637b143631a231e204564dfa267b0bbbad5839ed59eb86e4b4"), looks := true }, kinds := [], alts := [], laidByText := true, laidKinds := [.data, .data, .data, .sentinel, .sentinel], laidTests := true, laidLooks := .later }
def SdlBackCardSaid : Prop := Claim7.holds Tryd.pinned (.plain (OpenSpec.ofChange sdlBackSpec)) sdlBackCard

/-- THE TIED CARD OF 'columbarylaw07.SdlJoins'. -/
def sdlJoinsCard : Claim7 := { stood := { row := sdlJoinsRow, standIns := [], harness := (true, "bc8dbb6d317441637b143631a231e204564dfa267b0bbbad5839ed59eb86e4b4"), looks := true }, kinds := [], alts := [], laidByText := true, laidKinds := [.data, .data, .data, .sentinel, .sentinel], laidTests := true, laidLooks := .later }
def SdlJoinsCardSaid : Prop := Claim7.holds Tryd.pinned (.plain (OpenSpec.ofChange sdlJoinsSpec)) sdlJoinsCard

/-- THE TIED CARD OF 'columbarylaw07.SdlSigns'. -/
def sdlSignsCard : Claim7 := { stood := { row := sdlSignsRow, standIns := [], harness := (true, "bc8dbb6d317441637b143631a231e204564dfa267b0bbbad5839ed59eb86e4b4"), looks := true }, kinds := [], alts := [], laidByText := true, laidKinds := [.data, .data, .data, .sentinel, .sentinel], laidTests := true, laidLooks := .later }
def SdlSignsCardSaid : Prop := Claim7.holds Tryd.pinned (.plain (OpenSpec.ofChange sdlSignsSpec)) sdlSignsCard

/-- THE TIED CARD OF 'columbarylaw07.SdlKinds'. -/
def sdlKindsCard : Claim7 := { stood := { row := sdlKindsRow, standIns := [], harness := (true, "bc8dbb6d317441637b143631a231e204564dfa267b0bbbad5839ed59eb86e4b4"), looks := true }, kinds := [], alts := [], laidByText := true, laidKinds := [.data, .data, .data, .sentinel, .sentinel], laidTests := true, laidLooks := .later }
def SdlKindsCardSaid : Prop := Claim7.holds Tryd.pinned (.plain (OpenSpec.ofChange sdlKindsSpec)) sdlKindsCard

/-- THE SECOND FORM's CARD OF 'columbarylaw06.ParseBack'. -/
def parseBackUptoCard : Claim7 := { stood := { row := parseBackUptoRow, standIns := [], harness := (true, "bc8dbb6d317441637b143631a231e204564dfa267b0bbbad5839ed59eb86e4b4"), looks := true }, kinds := [], alts := [], laidByText := true, laidKinds := [.data, .data, .data, .sentinel, .sentinel], laidTests := true, laidLooks := .later }
def ParseBackUptoCardSaid : Prop := Claim7.holds Tryd.pinned (.plain (OpenSpec.upto parseBackSpec)) parseBackUptoCard

/-- THE SECOND FORM's CARD OF 'columbarylaw06.ParseJoins'. -/
def parseJoinsUptoCard : Claim7 := { stood := { row := parseJoinsUptoRow, standIns := [], harness := (true, "bc8dbb6d317441637b143631a231e204564dfa267b0bbbad5839ed59eb86e4b4"), looks := true }, kinds := [], alts := [], laidByText := true, laidKinds := [.data, .data, .data, .sentinel, .sentinel], laidTests := true, laidLooks := .later }
def ParseJoinsUptoCardSaid : Prop := Claim7.holds Tryd.pinned (.plain (OpenSpec.upto parseJoinsSpec)) parseJoinsUptoCard

/-- THE SECOND FORM's CARD OF 'columbarylaw06.ParseDeep'. -/
def parseDeepUptoCard : Claim7 := { stood := { row := parseDeepUptoRow, standIns := [], harness := (true, "bc8dbb6d317441637b143631a231e204564dfa267b0bbbad5839ed59eb86e4b4"), looks := true }, kinds := [], alts := [], laidByText := true, laidKinds := [.data, .data, .data, .sentinel, .sentinel], laidTests := true, laidLooks := .later }
def ParseDeepUptoCardSaid : Prop := Claim7.holds Tryd.pinned (.plain (OpenSpec.upto parseDeepSpec)) parseDeepUptoCard

/-- THE SECOND FORM's CARD OF 'columbarylaw06.ParseWords'. -/
def parseWordsUptoCard : Claim7 := { stood := { row := parseWordsUptoRow, standIns := [], harness := (true, "bc8dbb6d317441637b143631a231e204564dfa267b0bbbad5839ed59eb86e4b4"), looks := true }, kinds := [], alts := [], laidByText := true, laidKinds := [.data, .data, .data, .sentinel, .sentinel], laidTests := true, laidLooks := .later }
def ParseWordsUptoCardSaid : Prop := Claim7.holds Tryd.pinned (.plain (OpenSpec.upto parseWordsSpec)) parseWordsUptoCard

/-- THE SECOND FORM's CARD OF 'columbarylaw06.ParseBlanks'. -/
def parseBlanksUptoCard : Claim7 := { stood := { row := parseBlanksUptoRow, standIns := [], harness := (true, "bc8dbb6d317441637b143631a231e204564dfa267b0bbbad5839ed59eb86e4b4"), looks := true }, kinds := [], alts := [], laidByText := true, laidKinds := [.data, .data, .data, .sentinel, .sentinel], laidTests := true, laidLooks := .later }
def ParseBlanksUptoCardSaid : Prop := Claim7.holds Tryd.pinned (.plain (OpenSpec.upto parseBlanksSpec)) parseBlanksUptoCard

/-- THE SECOND FORM's CARD OF 'columbarylaw06.ParseCut'. -/
def parseCutUptoCard : Claim7 := { stood := { row := parseCutUptoRow, standIns := [], harness := (true, "bc8dbb6d317441637b143631a231e204564dfa267b0bbbad5839ed59eb86e4b4"), looks := true }, kinds := [], alts := [], laidByText := true, laidKinds := [.data, .data, .data, .sentinel, .sentinel], laidTests := true, laidLooks := .later }
def ParseCutUptoCardSaid : Prop := Claim7.holds Tryd.pinned (.plain (OpenSpec.upto parseCutSpec)) parseCutUptoCard

/-- THE SECOND FORM's CARD OF 'columbarylaw07.SdlBack'. -/
def sdlBackUptoCard : Claim7 := { stood := { row := sdlBackUptoRow, standIns := [], harness := (true, "bc8dbb6d317441637b143631a231e204564dfa267b0bbbad5839ed59eb86e4b4"), looks := true }, kinds := [], alts := [], laidByText := true, laidKinds := [.data, .data, .data, .sentinel, .sentinel], laidTests := true, laidLooks := .later }
def SdlBackUptoCardSaid : Prop := Claim7.holds Tryd.pinned (.plain (OpenSpec.upto sdlBackSpec)) sdlBackUptoCard

/-- THE SECOND FORM's CARD OF 'columbarylaw07.SdlJoins'. -/
def sdlJoinsUptoCard : Claim7 := { stood := { row := sdlJoinsUptoRow, standIns := [], harness := (true, "bc8dbb6d317441637b143631a231e204564dfa267b0bbbad5839ed59eb86e4b4"), looks := true }, kinds := [], alts := [], laidByText := true, laidKinds := [.data, .data, .data, .sentinel, .sentinel], laidTests := true, laidLooks := .later }
def SdlJoinsUptoCardSaid : Prop := Claim7.holds Tryd.pinned (.plain (OpenSpec.upto sdlJoinsSpec)) sdlJoinsUptoCard

/-- THE SECOND FORM's CARD OF 'columbarylaw07.SdlSigns'. -/
def sdlSignsUptoCard : Claim7 := { stood := { row := sdlSignsUptoRow, standIns := [], harness := (true, "bc8dbb6d317441637b143631a231e204564dfa267b0bbbad5839ed59eb86e4b4"), looks := true }, kinds := [], alts := [], laidByText := true, laidKinds := [.data, .data, .data, .sentinel, .sentinel], laidTests := true, laidLooks := .later }
def SdlSignsUptoCardSaid : Prop := Claim7.holds Tryd.pinned (.plain (OpenSpec.upto sdlSignsSpec)) sdlSignsUptoCard

/-- THE SECOND FORM's CARD OF 'columbarylaw07.SdlKinds'. -/
def sdlKindsUptoCard : Claim7 := { stood := { row := sdlKindsUptoRow, standIns := [], harness := (true, "bc8dbb6d317441637b143631a231e204564dfa267b0bbbad5839ed59eb86e4b4"), looks := true }, kinds := [], alts := [], laidByText := true, laidKinds := [.data, .data, .data, .sentinel, .sentinel], laidTests := true, laidLooks := .later }
def SdlKindsUptoCardSaid : Prop := Claim7.holds Tryd.pinned (.plain (OpenSpec.upto sdlKindsSpec)) sdlKindsUptoCard
end Rows
end Go.Proofs.YtgephneppgcnlaaDoor
