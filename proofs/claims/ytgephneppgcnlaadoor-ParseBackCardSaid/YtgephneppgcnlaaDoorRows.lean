/-
  NARROWER THAN 'FOR EVERY INPUT', by the rows' own cells (each row's printed sentence says how): ParseBack: laid · ParseJoins: laid · ParseDeep: laid · ParseWords: laid · ParseBlanks: laid · ParseCut: laid · SdlBack: laid · SdlJoins: laid · SdlSigns: laid · SdlKinds: laid.
  DERIVED. THE GIVEN ROWS OF THIS SEAT. 10 by the template 'for every input the law returns true; each argument reads behind the call as it read before'; 0 by the template 'total and deterministic' (their statements: YtgephneppgcnlaaDoorTotals.lean).
  GIVEN WITH THE SEED: the statements are not yours to turn. If you find one false, say at which input.
  Laid BY PROGRAM, IN A SANDBOX (cutbox-rows.mjs): the forced cells as the released guide's own fill.sh prints them over the translation dbbe384de213f1b1… (all of the seat's roots in one cut). By AI agents, Wed Nov 11 2026. No macro, syntax, notation, axiom, sorry.
-/
import Derived.Test.YtgephneppgcnlaaDoorChecked
import GoSem.Claim
import GoSem.ClaimJoined
import GoSem.ClaimMapViews
import Derived.JoinedTies
import Derived.KernelRfl
namespace Go.Proofs.YtgephneppgcnlaaDoor
/- THE CELL 'sum', in the pinned program and in every row, IS THE sha256 OF THE DUMP (.gsa) THAT YtgephneppgcnlaaDoorProg.lean LOADS. Nothing in Lean hashes anything: it is a label: what it is worth is what the hold of that sum in a sandbox is worth. -/
noncomputable def Tryd.pinned : Pinned := { name := "ytgephneppgcnlaadoor", sum := "dbbe384de213f1b1c9ed00ca25c173e92279527130c2534b04cce71e1dc1fbd3", checked := Tryd.checked }
namespace Rows
def none {H : Type} : Left H := { results := [], args := [] }

/- WHAT THE LISTED PACKAGE-LEVEL VARIABLES READ AS WHEN THE CALL BEGINS. Each datum BY PROGRAM (the guide's laid-datum.mjs) off the statement by which the dump's own 'gosem.cut.vars' lays the variable. In a bare row this is a premise. The card (YtgephneppgcnlaaDoorCards.lean) ties it to the program's text. -/
def laid_math_bits_deBruijn32tab {H : Type} : DataW H := .agg [.lit (.int .u8 0), .lit (.int .u8 1), .lit (.int .u8 28), .lit (.int .u8 2), .lit (.int .u8 29), .lit (.int .u8 14), .lit (.int .u8 24), .lit (.int .u8 3), .lit (.int .u8 30), .lit (.int .u8 22), .lit (.int .u8 20), .lit (.int .u8 15), .lit (.int .u8 25), .lit (.int .u8 17), .lit (.int .u8 4), .lit (.int .u8 8), .lit (.int .u8 31), .lit (.int .u8 27), .lit (.int .u8 13), .lit (.int .u8 23), .lit (.int .u8 21), .lit (.int .u8 19), .lit (.int .u8 16), .lit (.int .u8 7), .lit (.int .u8 26), .lit (.int .u8 12), .lit (.int .u8 18), .lit (.int .u8 6), .lit (.int .u8 11), .lit (.int .u8 5), .lit (.int .u8 10), .lit (.int .u8 9)]
def laid_math_bits_deBruijn64tab {H : Type} : DataW H := .agg [.lit (.int .u8 0), .lit (.int .u8 1), .lit (.int .u8 56), .lit (.int .u8 2), .lit (.int .u8 57), .lit (.int .u8 49), .lit (.int .u8 28), .lit (.int .u8 3), .lit (.int .u8 61), .lit (.int .u8 58), .lit (.int .u8 42), .lit (.int .u8 50), .lit (.int .u8 38), .lit (.int .u8 29), .lit (.int .u8 17), .lit (.int .u8 4), .lit (.int .u8 62), .lit (.int .u8 47), .lit (.int .u8 59), .lit (.int .u8 36), .lit (.int .u8 45), .lit (.int .u8 43), .lit (.int .u8 51), .lit (.int .u8 22), .lit (.int .u8 53), .lit (.int .u8 39), .lit (.int .u8 33), .lit (.int .u8 30), .lit (.int .u8 24), .lit (.int .u8 18), .lit (.int .u8 12), .lit (.int .u8 5), .lit (.int .u8 63), .lit (.int .u8 55), .lit (.int .u8 48), .lit (.int .u8 27), .lit (.int .u8 60), .lit (.int .u8 41), .lit (.int .u8 37), .lit (.int .u8 16), .lit (.int .u8 46), .lit (.int .u8 35), .lit (.int .u8 44), .lit (.int .u8 21), .lit (.int .u8 52), .lit (.int .u8 32), .lit (.int .u8 23), .lit (.int .u8 11), .lit (.int .u8 54), .lit (.int .u8 26), .lit (.int .u8 40), .lit (.int .u8 15), .lit (.int .u8 34), .lit (.int .u8 20), .lit (.int .u8 31), .lit (.int .u8 10), .lit (.int .u8 25), .lit (.int .u8 14), .lit (.int .u8 19), .lit (.int .u8 9), .lit (.int .u8 13), .lit (.int .u8 8), .lit (.int .u8 7), .lit (.int .u8 6)]
def laid_internal_strconv_uint64pow10 {H : Type} : DataW H := .agg [.lit (.int .u64 1), .lit (.int .u64 10), .lit (.int .u64 100), .lit (.int .u64 1000), .lit (.int .u64 10000), .lit (.int .u64 100000), .lit (.int .u64 1000000), .lit (.int .u64 10000000), .lit (.int .u64 100000000), .lit (.int .u64 1000000000), .lit (.int .u64 10000000000), .lit (.int .u64 100000000000), .lit (.int .u64 1000000000000), .lit (.int .u64 10000000000000), .lit (.int .u64 100000000000000), .lit (.int .u64 1000000000000000), .lit (.int .u64 10000000000000000), .lit (.int .u64 100000000000000000), .lit (.int .u64 1000000000000000000), .lit (.int .u64 10000000000000000000)]
def laid_strconv_ErrRange {H : Type} : DataW H := .iface "*errors.errorString" (.ptr (.agg [.lit (.string [118, 97, 108, 117, 101, 32, 111, 117, 116, 32, 111, 102, 32, 114, 97, 110, 103, 101])]))
def laid_strconv_ErrSyntax {H : Type} : DataW H := .iface "*errors.errorString" (.ptr (.agg [.lit (.string [105, 110, 118, 97, 108, 105, 100, 32, 115, 121, 110, 116, 97, 120])]))

/-- 'columbarylaw06.ParseBack': WHATEVER THE INPUT: true; the input reads as it did. -/
def parseBackSpec : ChangeSpec := { name := "parseBack", fn := fun _ => fun
  | [d] => { results := [.lit (.bool true)], args := [d] }
  | _ => none }
def parseBackRow : OpenClaim := { program := "ytgephneppgcnlaadoor", sum := "dbbe384de213f1b1c9ed00ca25c173e92279527130c2534b04cce71e1dc1fbd3", func := "columbary/columbarylaw06.ParseBack", spec := "parseBack", inPlace := ["internal/bytealg.IndexByteString", "internal/abi.NoEscape"], unfollowed := true, recurses := true, named := ["strconv.ErrSyntax", "strconv.ErrRange", "internal/strconv.uint64pow10", "math/bits.deBruijn32tab", "math/bits.deBruijn64tab"], apart := false, laid := [("math/bits.deBruijn32tab", laid_math_bits_deBruijn32tab), ("math/bits.deBruijn64tab", laid_math_bits_deBruijn64tab), ("internal/strconv.uint64pow10", laid_internal_strconv_uint64pow10), ("strconv.ErrRange", laid_strconv_ErrRange), ("strconv.ErrSyntax", laid_strconv_ErrSyntax)] }
def ParseBackSaid : Prop := parseBackRow.holds Tryd.pinned (OpenSpec.ofChange parseBackSpec)

/-- ITS FALSE NEIGHBOUR: 'it returns false'. Refute it at one input. -/
def parseBackWrong : ChangeSpec := { name := "parseBack", fn := fun _ => fun
  | [d] => { results := [.lit (.bool false)], args := [d] }
  | _ => none }
def ParseBackWrongFalsely : Prop := parseBackRow.holds Tryd.pinned (OpenSpec.ofChange parseBackWrong)

/-- 'columbarylaw06.ParseJoins': WHATEVER THE INPUT: true; the input reads as it did. -/
def parseJoinsSpec : ChangeSpec := { name := "parseJoins", fn := fun _ => fun
  | [d1, d2] => { results := [.lit (.bool true)], args := [d1, d2] }
  | _ => none }
def parseJoinsRow : OpenClaim := { program := "ytgephneppgcnlaadoor", sum := "dbbe384de213f1b1c9ed00ca25c173e92279527130c2534b04cce71e1dc1fbd3", func := "columbary/columbarylaw06.ParseJoins", spec := "parseJoins", inPlace := ["internal/bytealg.IndexByteString", "internal/abi.NoEscape"], unfollowed := true, recurses := true, named := ["strconv.ErrSyntax", "strconv.ErrRange", "internal/strconv.uint64pow10", "math/bits.deBruijn32tab", "math/bits.deBruijn64tab"], apart := false, laid := [("math/bits.deBruijn32tab", laid_math_bits_deBruijn32tab), ("math/bits.deBruijn64tab", laid_math_bits_deBruijn64tab), ("internal/strconv.uint64pow10", laid_internal_strconv_uint64pow10), ("strconv.ErrRange", laid_strconv_ErrRange), ("strconv.ErrSyntax", laid_strconv_ErrSyntax)] }
def ParseJoinsSaid : Prop := parseJoinsRow.holds Tryd.pinned (OpenSpec.ofChange parseJoinsSpec)

/-- ITS FALSE NEIGHBOUR: 'it returns false'. Refute it at one input. -/
def parseJoinsWrong : ChangeSpec := { name := "parseJoins", fn := fun _ => fun
  | [d1, d2] => { results := [.lit (.bool false)], args := [d1, d2] }
  | _ => none }
def ParseJoinsWrongFalsely : Prop := parseJoinsRow.holds Tryd.pinned (OpenSpec.ofChange parseJoinsWrong)

/-- 'columbarylaw06.ParseDeep': WHATEVER THE INPUT: true; the input reads as it did. -/
def parseDeepSpec : ChangeSpec := { name := "parseDeep", fn := fun _ => fun
  | [d1, d2] => { results := [.lit (.bool true)], args := [d1, d2] }
  | _ => none }
def parseDeepRow : OpenClaim := { program := "ytgephneppgcnlaadoor", sum := "dbbe384de213f1b1c9ed00ca25c173e92279527130c2534b04cce71e1dc1fbd3", func := "columbary/columbarylaw06.ParseDeep", spec := "parseDeep", inPlace := ["internal/bytealg.IndexByteString", "internal/abi.NoEscape"], unfollowed := true, recurses := true, named := ["strconv.ErrSyntax", "strconv.ErrRange", "internal/strconv.uint64pow10", "math/bits.deBruijn32tab", "math/bits.deBruijn64tab"], apart := false, laid := [("math/bits.deBruijn32tab", laid_math_bits_deBruijn32tab), ("math/bits.deBruijn64tab", laid_math_bits_deBruijn64tab), ("internal/strconv.uint64pow10", laid_internal_strconv_uint64pow10), ("strconv.ErrRange", laid_strconv_ErrRange), ("strconv.ErrSyntax", laid_strconv_ErrSyntax)] }
def ParseDeepSaid : Prop := parseDeepRow.holds Tryd.pinned (OpenSpec.ofChange parseDeepSpec)

/-- ITS FALSE NEIGHBOUR: 'it returns false'. Refute it at one input. -/
def parseDeepWrong : ChangeSpec := { name := "parseDeep", fn := fun _ => fun
  | [d1, d2] => { results := [.lit (.bool false)], args := [d1, d2] }
  | _ => none }
def ParseDeepWrongFalsely : Prop := parseDeepRow.holds Tryd.pinned (OpenSpec.ofChange parseDeepWrong)

/-- 'columbarylaw06.ParseWords': WHATEVER THE INPUT: true; the input reads as it did. -/
def parseWordsSpec : ChangeSpec := { name := "parseWords", fn := fun _ => fun
  | [d1, d2] => { results := [.lit (.bool true)], args := [d1, d2] }
  | _ => none }
def parseWordsRow : OpenClaim := { program := "ytgephneppgcnlaadoor", sum := "dbbe384de213f1b1c9ed00ca25c173e92279527130c2534b04cce71e1dc1fbd3", func := "columbary/columbarylaw06.ParseWords", spec := "parseWords", inPlace := ["internal/bytealg.IndexByteString", "internal/abi.NoEscape"], unfollowed := true, recurses := true, named := ["strconv.ErrSyntax", "strconv.ErrRange", "internal/strconv.uint64pow10", "math/bits.deBruijn32tab", "math/bits.deBruijn64tab"], apart := false, laid := [("math/bits.deBruijn32tab", laid_math_bits_deBruijn32tab), ("math/bits.deBruijn64tab", laid_math_bits_deBruijn64tab), ("internal/strconv.uint64pow10", laid_internal_strconv_uint64pow10), ("strconv.ErrRange", laid_strconv_ErrRange), ("strconv.ErrSyntax", laid_strconv_ErrSyntax)] }
def ParseWordsSaid : Prop := parseWordsRow.holds Tryd.pinned (OpenSpec.ofChange parseWordsSpec)

/-- ITS FALSE NEIGHBOUR: 'it returns false'. Refute it at one input. -/
def parseWordsWrong : ChangeSpec := { name := "parseWords", fn := fun _ => fun
  | [d1, d2] => { results := [.lit (.bool false)], args := [d1, d2] }
  | _ => none }
def ParseWordsWrongFalsely : Prop := parseWordsRow.holds Tryd.pinned (OpenSpec.ofChange parseWordsWrong)

/-- 'columbarylaw06.ParseBlanks': WHATEVER THE INPUT: true; the input reads as it did. -/
def parseBlanksSpec : ChangeSpec := { name := "parseBlanks", fn := fun _ => fun
  | [d1, d2] => { results := [.lit (.bool true)], args := [d1, d2] }
  | _ => none }
def parseBlanksRow : OpenClaim := { program := "ytgephneppgcnlaadoor", sum := "dbbe384de213f1b1c9ed00ca25c173e92279527130c2534b04cce71e1dc1fbd3", func := "columbary/columbarylaw06.ParseBlanks", spec := "parseBlanks", inPlace := ["internal/bytealg.IndexByteString", "internal/abi.NoEscape"], unfollowed := true, recurses := true, named := ["strconv.ErrSyntax", "strconv.ErrRange", "internal/strconv.uint64pow10", "math/bits.deBruijn32tab", "math/bits.deBruijn64tab"], apart := false, laid := [("math/bits.deBruijn32tab", laid_math_bits_deBruijn32tab), ("math/bits.deBruijn64tab", laid_math_bits_deBruijn64tab), ("internal/strconv.uint64pow10", laid_internal_strconv_uint64pow10), ("strconv.ErrRange", laid_strconv_ErrRange), ("strconv.ErrSyntax", laid_strconv_ErrSyntax)] }
def ParseBlanksSaid : Prop := parseBlanksRow.holds Tryd.pinned (OpenSpec.ofChange parseBlanksSpec)

/-- ITS FALSE NEIGHBOUR: 'it returns false'. Refute it at one input. -/
def parseBlanksWrong : ChangeSpec := { name := "parseBlanks", fn := fun _ => fun
  | [d1, d2] => { results := [.lit (.bool false)], args := [d1, d2] }
  | _ => none }
def ParseBlanksWrongFalsely : Prop := parseBlanksRow.holds Tryd.pinned (OpenSpec.ofChange parseBlanksWrong)

/-- 'columbarylaw06.ParseCut': WHATEVER THE INPUT: true; the input reads as it did. -/
def parseCutSpec : ChangeSpec := { name := "parseCut", fn := fun _ => fun
  | [d] => { results := [.lit (.bool true)], args := [d] }
  | _ => none }
def parseCutRow : OpenClaim := { program := "ytgephneppgcnlaadoor", sum := "dbbe384de213f1b1c9ed00ca25c173e92279527130c2534b04cce71e1dc1fbd3", func := "columbary/columbarylaw06.ParseCut", spec := "parseCut", inPlace := ["internal/bytealg.IndexByteString", "internal/abi.NoEscape"], unfollowed := true, recurses := true, named := ["strconv.ErrSyntax", "strconv.ErrRange", "internal/strconv.uint64pow10", "math/bits.deBruijn32tab", "math/bits.deBruijn64tab"], apart := false, laid := [("math/bits.deBruijn32tab", laid_math_bits_deBruijn32tab), ("math/bits.deBruijn64tab", laid_math_bits_deBruijn64tab), ("internal/strconv.uint64pow10", laid_internal_strconv_uint64pow10), ("strconv.ErrRange", laid_strconv_ErrRange), ("strconv.ErrSyntax", laid_strconv_ErrSyntax)] }
def ParseCutSaid : Prop := parseCutRow.holds Tryd.pinned (OpenSpec.ofChange parseCutSpec)

/-- ITS FALSE NEIGHBOUR: 'it returns false'. Refute it at one input. -/
def parseCutWrong : ChangeSpec := { name := "parseCut", fn := fun _ => fun
  | [d] => { results := [.lit (.bool false)], args := [d] }
  | _ => none }
def ParseCutWrongFalsely : Prop := parseCutRow.holds Tryd.pinned (OpenSpec.ofChange parseCutWrong)

/-- 'columbarylaw07.SdlBack': WHATEVER THE INPUT: true; the input reads as it did. -/
def sdlBackSpec : ChangeSpec := { name := "sdlBack", fn := fun _ => fun
  | [d] => { results := [.lit (.bool true)], args := [d] }
  | _ => none }
def sdlBackRow : OpenClaim := { program := "ytgephneppgcnlaadoor", sum := "dbbe384de213f1b1c9ed00ca25c173e92279527130c2534b04cce71e1dc1fbd3", func := "columbary/columbarylaw07.SdlBack", spec := "sdlBack", inPlace := ["internal/bytealg.IndexByteString", "internal/abi.NoEscape"], unfollowed := true, recurses := true, named := ["strconv.ErrSyntax", "strconv.ErrRange", "internal/strconv.uint64pow10", "math/bits.deBruijn32tab", "math/bits.deBruijn64tab"], apart := false, laid := [("math/bits.deBruijn32tab", laid_math_bits_deBruijn32tab), ("math/bits.deBruijn64tab", laid_math_bits_deBruijn64tab), ("internal/strconv.uint64pow10", laid_internal_strconv_uint64pow10), ("strconv.ErrRange", laid_strconv_ErrRange), ("strconv.ErrSyntax", laid_strconv_ErrSyntax)] }
def SdlBackSaid : Prop := sdlBackRow.holds Tryd.pinned (OpenSpec.ofChange sdlBackSpec)

/-- ITS FALSE NEIGHBOUR: 'it returns false'. Refute it at one input. -/
def sdlBackWrong : ChangeSpec := { name := "sdlBack", fn := fun _ => fun
  | [d] => { results := [.lit (.bool false)], args := [d] }
  | _ => none }
def SdlBackWrongFalsely : Prop := sdlBackRow.holds Tryd.pinned (OpenSpec.ofChange sdlBackWrong)

/-- 'columbarylaw07.SdlJoins': WHATEVER THE INPUT: true; the input reads as it did. -/
def sdlJoinsSpec : ChangeSpec := { name := "sdlJoins", fn := fun _ => fun
  | [d1, d2] => { results := [.lit (.bool true)], args := [d1, d2] }
  | _ => none }
def sdlJoinsRow : OpenClaim := { program := "ytgephneppgcnlaadoor", sum := "dbbe384de213f1b1c9ed00ca25c173e92279527130c2534b04cce71e1dc1fbd3", func := "columbary/columbarylaw07.SdlJoins", spec := "sdlJoins", inPlace := ["internal/bytealg.IndexByteString", "internal/abi.NoEscape"], unfollowed := true, recurses := true, named := ["strconv.ErrSyntax", "strconv.ErrRange", "internal/strconv.uint64pow10", "math/bits.deBruijn32tab", "math/bits.deBruijn64tab"], apart := false, laid := [("math/bits.deBruijn32tab", laid_math_bits_deBruijn32tab), ("math/bits.deBruijn64tab", laid_math_bits_deBruijn64tab), ("internal/strconv.uint64pow10", laid_internal_strconv_uint64pow10), ("strconv.ErrRange", laid_strconv_ErrRange), ("strconv.ErrSyntax", laid_strconv_ErrSyntax)] }
def SdlJoinsSaid : Prop := sdlJoinsRow.holds Tryd.pinned (OpenSpec.ofChange sdlJoinsSpec)

/-- ITS FALSE NEIGHBOUR: 'it returns false'. Refute it at one input. -/
def sdlJoinsWrong : ChangeSpec := { name := "sdlJoins", fn := fun _ => fun
  | [d1, d2] => { results := [.lit (.bool false)], args := [d1, d2] }
  | _ => none }
def SdlJoinsWrongFalsely : Prop := sdlJoinsRow.holds Tryd.pinned (OpenSpec.ofChange sdlJoinsWrong)

/-- 'columbarylaw07.SdlSigns': WHATEVER THE INPUT: true; the input reads as it did. -/
def sdlSignsSpec : ChangeSpec := { name := "sdlSigns", fn := fun _ => fun
  | [d] => { results := [.lit (.bool true)], args := [d] }
  | _ => none }
def sdlSignsRow : OpenClaim := { program := "ytgephneppgcnlaadoor", sum := "dbbe384de213f1b1c9ed00ca25c173e92279527130c2534b04cce71e1dc1fbd3", func := "columbary/columbarylaw07.SdlSigns", spec := "sdlSigns", inPlace := ["internal/bytealg.IndexByteString", "internal/abi.NoEscape"], unfollowed := true, recurses := true, named := ["strconv.ErrSyntax", "strconv.ErrRange", "internal/strconv.uint64pow10", "math/bits.deBruijn32tab", "math/bits.deBruijn64tab"], apart := false, laid := [("math/bits.deBruijn32tab", laid_math_bits_deBruijn32tab), ("math/bits.deBruijn64tab", laid_math_bits_deBruijn64tab), ("internal/strconv.uint64pow10", laid_internal_strconv_uint64pow10), ("strconv.ErrRange", laid_strconv_ErrRange), ("strconv.ErrSyntax", laid_strconv_ErrSyntax)] }
def SdlSignsSaid : Prop := sdlSignsRow.holds Tryd.pinned (OpenSpec.ofChange sdlSignsSpec)

/-- ITS FALSE NEIGHBOUR: 'it returns false'. Refute it at one input. -/
def sdlSignsWrong : ChangeSpec := { name := "sdlSigns", fn := fun _ => fun
  | [d] => { results := [.lit (.bool false)], args := [d] }
  | _ => none }
def SdlSignsWrongFalsely : Prop := sdlSignsRow.holds Tryd.pinned (OpenSpec.ofChange sdlSignsWrong)

/-- 'columbarylaw07.SdlKinds': WHATEVER THE INPUT: true; the input reads as it did. -/
def sdlKindsSpec : ChangeSpec := { name := "sdlKinds", fn := fun _ => fun
  | [d1, d2] => { results := [.lit (.bool true)], args := [d1, d2] }
  | _ => none }
def sdlKindsRow : OpenClaim := { program := "ytgephneppgcnlaadoor", sum := "dbbe384de213f1b1c9ed00ca25c173e92279527130c2534b04cce71e1dc1fbd3", func := "columbary/columbarylaw07.SdlKinds", spec := "sdlKinds", inPlace := ["internal/bytealg.IndexByteString", "internal/abi.NoEscape"], unfollowed := true, recurses := true, named := ["strconv.ErrSyntax", "strconv.ErrRange", "internal/strconv.uint64pow10", "math/bits.deBruijn32tab", "math/bits.deBruijn64tab"], apart := false, laid := [("math/bits.deBruijn32tab", laid_math_bits_deBruijn32tab), ("math/bits.deBruijn64tab", laid_math_bits_deBruijn64tab), ("internal/strconv.uint64pow10", laid_internal_strconv_uint64pow10), ("strconv.ErrRange", laid_strconv_ErrRange), ("strconv.ErrSyntax", laid_strconv_ErrSyntax)] }
def SdlKindsSaid : Prop := sdlKindsRow.holds Tryd.pinned (OpenSpec.ofChange sdlKindsSpec)

/-- ITS FALSE NEIGHBOUR: 'it returns false'. Refute it at one input. -/
def sdlKindsWrong : ChangeSpec := { name := "sdlKinds", fn := fun _ => fun
  | [d1, d2] => { results := [.lit (.bool false)], args := [d1, d2] }
  | _ => none }
def SdlKindsWrongFalsely : Prop := sdlKindsRow.holds Tryd.pinned (OpenSpec.ofChange sdlKindsWrong)

/- THE SECOND FORM. 'bulk': how many values and letters a reading holds, each counted each time it is reached (what is shared counts as often as it is met; a slice's spare places count too). A statement '..UptoSaid' is the law's where the arguments, and the package variables that the reading takes, are together of bulk at most 1048576: NARROWER than '..Said'. Prove '..Said' where nothing that the law and all that it calls make is longer than what came in: it says more and counts as full. Else prove '..UptoSaid'. A law counts once. -/
mutual
def uptoBulk {H : Type} : DataW H → Nat
  | .lit (.string bytes) => bytes.length + 1
  | .lit _ => 1
  | .nil => 1
  | .ptr d => uptoBulk d + 1
  | .slice elems spare => uptoBulkAll elems + uptoBulkAll spare + 1
  | .agg parts => uptoBulkAll parts + 1
  | .iface _ d => uptoBulk d + 1
  | .map entries => uptoBulkEntries entries + 1
  | .held _ => 1
def uptoBulkAll {H : Type} : List (DataW H) → Nat
  | [] => 0
  | d :: r => uptoBulk d + uptoBulkAll r
def uptoBulkEntries {H : Type} : List (Lit × DataW H) → Nat
  | [] => 0
  | x :: r => uptoBulkEntry x + uptoBulkEntries r
def uptoBulkEntry {H : Type} : Lit × DataW H → Nat
  | (.string bytes, d) => bytes.length + uptoBulk d + 1
  | (_, d) => uptoBulk d + 1
 end
def uptoSmall : (H : Type) → List (DataW H) → Bool := fun _ ds => decide (uptoBulkAll ds ≤ 1048576)
def OpenSpec.upto (s : _root_.Go.ChangeSpec) : _root_.Go.OpenSpec := { _root_.Go.OpenSpec.ofChange s with cond := some uptoSmall }

/-- 'columbarylaw06.ParseBack', WHERE WHAT IT READS IS OF BULK AT MOST 1048576: true; the input reads as it did. -/
def parseBackUptoRow : OpenClaim := { program := "ytgephneppgcnlaadoor", sum := "dbbe384de213f1b1c9ed00ca25c173e92279527130c2534b04cce71e1dc1fbd3", func := "columbary/columbarylaw06.ParseBack", spec := "parseBack", inPlace := ["internal/bytealg.IndexByteString", "internal/abi.NoEscape"], unfollowed := true, recurses := true, named := ["strconv.ErrSyntax", "strconv.ErrRange", "internal/strconv.uint64pow10", "math/bits.deBruijn32tab", "math/bits.deBruijn64tab"], apart := false, laid := [("math/bits.deBruijn32tab", laid_math_bits_deBruijn32tab), ("math/bits.deBruijn64tab", laid_math_bits_deBruijn64tab), ("internal/strconv.uint64pow10", laid_internal_strconv_uint64pow10), ("strconv.ErrRange", laid_strconv_ErrRange), ("strconv.ErrSyntax", laid_strconv_ErrSyntax)], narrowed := true }
def ParseBackUptoSaid : Prop := parseBackUptoRow.holds Tryd.pinned (OpenSpec.upto parseBackSpec)

/-- 'columbarylaw06.ParseJoins', WHERE WHAT IT READS IS OF BULK AT MOST 1048576: true; the input reads as it did. -/
def parseJoinsUptoRow : OpenClaim := { program := "ytgephneppgcnlaadoor", sum := "dbbe384de213f1b1c9ed00ca25c173e92279527130c2534b04cce71e1dc1fbd3", func := "columbary/columbarylaw06.ParseJoins", spec := "parseJoins", inPlace := ["internal/bytealg.IndexByteString", "internal/abi.NoEscape"], unfollowed := true, recurses := true, named := ["strconv.ErrSyntax", "strconv.ErrRange", "internal/strconv.uint64pow10", "math/bits.deBruijn32tab", "math/bits.deBruijn64tab"], apart := false, laid := [("math/bits.deBruijn32tab", laid_math_bits_deBruijn32tab), ("math/bits.deBruijn64tab", laid_math_bits_deBruijn64tab), ("internal/strconv.uint64pow10", laid_internal_strconv_uint64pow10), ("strconv.ErrRange", laid_strconv_ErrRange), ("strconv.ErrSyntax", laid_strconv_ErrSyntax)], narrowed := true }
def ParseJoinsUptoSaid : Prop := parseJoinsUptoRow.holds Tryd.pinned (OpenSpec.upto parseJoinsSpec)

/-- 'columbarylaw06.ParseDeep', WHERE WHAT IT READS IS OF BULK AT MOST 1048576: true; the input reads as it did. -/
def parseDeepUptoRow : OpenClaim := { program := "ytgephneppgcnlaadoor", sum := "dbbe384de213f1b1c9ed00ca25c173e92279527130c2534b04cce71e1dc1fbd3", func := "columbary/columbarylaw06.ParseDeep", spec := "parseDeep", inPlace := ["internal/bytealg.IndexByteString", "internal/abi.NoEscape"], unfollowed := true, recurses := true, named := ["strconv.ErrSyntax", "strconv.ErrRange", "internal/strconv.uint64pow10", "math/bits.deBruijn32tab", "math/bits.deBruijn64tab"], apart := false, laid := [("math/bits.deBruijn32tab", laid_math_bits_deBruijn32tab), ("math/bits.deBruijn64tab", laid_math_bits_deBruijn64tab), ("internal/strconv.uint64pow10", laid_internal_strconv_uint64pow10), ("strconv.ErrRange", laid_strconv_ErrRange), ("strconv.ErrSyntax", laid_strconv_ErrSyntax)], narrowed := true }
def ParseDeepUptoSaid : Prop := parseDeepUptoRow.holds Tryd.pinned (OpenSpec.upto parseDeepSpec)

/-- 'columbarylaw06.ParseWords', WHERE WHAT IT READS IS OF BULK AT MOST 1048576: true; the input reads as it did. -/
def parseWordsUptoRow : OpenClaim := { program := "ytgephneppgcnlaadoor", sum := "dbbe384de213f1b1c9ed00ca25c173e92279527130c2534b04cce71e1dc1fbd3", func := "columbary/columbarylaw06.ParseWords", spec := "parseWords", inPlace := ["internal/bytealg.IndexByteString", "internal/abi.NoEscape"], unfollowed := true, recurses := true, named := ["strconv.ErrSyntax", "strconv.ErrRange", "internal/strconv.uint64pow10", "math/bits.deBruijn32tab", "math/bits.deBruijn64tab"], apart := false, laid := [("math/bits.deBruijn32tab", laid_math_bits_deBruijn32tab), ("math/bits.deBruijn64tab", laid_math_bits_deBruijn64tab), ("internal/strconv.uint64pow10", laid_internal_strconv_uint64pow10), ("strconv.ErrRange", laid_strconv_ErrRange), ("strconv.ErrSyntax", laid_strconv_ErrSyntax)], narrowed := true }
def ParseWordsUptoSaid : Prop := parseWordsUptoRow.holds Tryd.pinned (OpenSpec.upto parseWordsSpec)

/-- 'columbarylaw06.ParseBlanks', WHERE WHAT IT READS IS OF BULK AT MOST 1048576: true; the input reads as it did. -/
def parseBlanksUptoRow : OpenClaim := { program := "ytgephneppgcnlaadoor", sum := "dbbe384de213f1b1c9ed00ca25c173e92279527130c2534b04cce71e1dc1fbd3", func := "columbary/columbarylaw06.ParseBlanks", spec := "parseBlanks", inPlace := ["internal/bytealg.IndexByteString", "internal/abi.NoEscape"], unfollowed := true, recurses := true, named := ["strconv.ErrSyntax", "strconv.ErrRange", "internal/strconv.uint64pow10", "math/bits.deBruijn32tab", "math/bits.deBruijn64tab"], apart := false, laid := [("math/bits.deBruijn32tab", laid_math_bits_deBruijn32tab), ("math/bits.deBruijn64tab", laid_math_bits_deBruijn64tab), ("internal/strconv.uint64pow10", laid_internal_strconv_uint64pow10), ("strconv.ErrRange", laid_strconv_ErrRange), ("strconv.ErrSyntax", laid_strconv_ErrSyntax)], narrowed := true }
def ParseBlanksUptoSaid : Prop := parseBlanksUptoRow.holds Tryd.pinned (OpenSpec.upto parseBlanksSpec)

/-- 'columbarylaw06.ParseCut', WHERE WHAT IT READS IS OF BULK AT MOST 1048576: true; the input reads as it did. -/
def parseCutUptoRow : OpenClaim := { program := "ytgephneppgcnlaadoor", sum := "dbbe384de213f1b1c9ed00ca25c173e92279527130c2534b04cce71e1dc1fbd3", func := "columbary/columbarylaw06.ParseCut", spec := "parseCut", inPlace := ["internal/bytealg.IndexByteString", "internal/abi.NoEscape"], unfollowed := true, recurses := true, named := ["strconv.ErrSyntax", "strconv.ErrRange", "internal/strconv.uint64pow10", "math/bits.deBruijn32tab", "math/bits.deBruijn64tab"], apart := false, laid := [("math/bits.deBruijn32tab", laid_math_bits_deBruijn32tab), ("math/bits.deBruijn64tab", laid_math_bits_deBruijn64tab), ("internal/strconv.uint64pow10", laid_internal_strconv_uint64pow10), ("strconv.ErrRange", laid_strconv_ErrRange), ("strconv.ErrSyntax", laid_strconv_ErrSyntax)], narrowed := true }
def ParseCutUptoSaid : Prop := parseCutUptoRow.holds Tryd.pinned (OpenSpec.upto parseCutSpec)

/-- 'columbarylaw07.SdlBack', WHERE WHAT IT READS IS OF BULK AT MOST 1048576: true; the input reads as it did. -/
def sdlBackUptoRow : OpenClaim := { program := "ytgephneppgcnlaadoor", sum := "dbbe384de213f1b1c9ed00ca25c173e92279527130c2534b04cce71e1dc1fbd3", func := "columbary/columbarylaw07.SdlBack", spec := "sdlBack", inPlace := ["internal/bytealg.IndexByteString", "internal/abi.NoEscape"], unfollowed := true, recurses := true, named := ["strconv.ErrSyntax", "strconv.ErrRange", "internal/strconv.uint64pow10", "math/bits.deBruijn32tab", "math/bits.deBruijn64tab"], apart := false, laid := [("math/bits.deBruijn32tab", laid_math_bits_deBruijn32tab), ("math/bits.deBruijn64tab", laid_math_bits_deBruijn64tab), ("internal/strconv.uint64pow10", laid_internal_strconv_uint64pow10), ("strconv.ErrRange", laid_strconv_ErrRange), ("strconv.ErrSyntax", laid_strconv_ErrSyntax)], narrowed := true }
def SdlBackUptoSaid : Prop := sdlBackUptoRow.holds Tryd.pinned (OpenSpec.upto sdlBackSpec)

/-- 'columbarylaw07.SdlJoins', WHERE WHAT IT READS IS OF BULK AT MOST 1048576: true; the input reads as it did. -/
def sdlJoinsUptoRow : OpenClaim := { program := "ytgephneppgcnlaadoor", sum := "dbbe384de213f1b1c9ed00ca25c173e92279527130c2534b04cce71e1dc1fbd3", func := "columbary/columbarylaw07.SdlJoins", spec := "sdlJoins", inPlace := ["internal/bytealg.IndexByteString", "internal/abi.NoEscape"], unfollowed := true, recurses := true, named := ["strconv.ErrSyntax", "strconv.ErrRange", "internal/strconv.uint64pow10", "math/bits.deBruijn32tab", "math/bits.deBruijn64tab"], apart := false, laid := [("math/bits.deBruijn32tab", laid_math_bits_deBruijn32tab), ("math/bits.deBruijn64tab", laid_math_bits_deBruijn64tab), ("internal/strconv.uint64pow10", laid_internal_strconv_uint64pow10), ("strconv.ErrRange", laid_strconv_ErrRange), ("strconv.ErrSyntax", laid_strconv_ErrSyntax)], narrowed := true }
def SdlJoinsUptoSaid : Prop := sdlJoinsUptoRow.holds Tryd.pinned (OpenSpec.upto sdlJoinsSpec)

/-- 'columbarylaw07.SdlSigns', WHERE WHAT IT READS IS OF BULK AT MOST 1048576: true; the input reads as it did. -/
def sdlSignsUptoRow : OpenClaim := { program := "ytgephneppgcnlaadoor", sum := "dbbe384de213f1b1c9ed00ca25c173e92279527130c2534b04cce71e1dc1fbd3", func := "columbary/columbarylaw07.SdlSigns", spec := "sdlSigns", inPlace := ["internal/bytealg.IndexByteString", "internal/abi.NoEscape"], unfollowed := true, recurses := true, named := ["strconv.ErrSyntax", "strconv.ErrRange", "internal/strconv.uint64pow10", "math/bits.deBruijn32tab", "math/bits.deBruijn64tab"], apart := false, laid := [("math/bits.deBruijn32tab", laid_math_bits_deBruijn32tab), ("math/bits.deBruijn64tab", laid_math_bits_deBruijn64tab), ("internal/strconv.uint64pow10", laid_internal_strconv_uint64pow10), ("strconv.ErrRange", laid_strconv_ErrRange), ("strconv.ErrSyntax", laid_strconv_ErrSyntax)], narrowed := true }
def SdlSignsUptoSaid : Prop := sdlSignsUptoRow.holds Tryd.pinned (OpenSpec.upto sdlSignsSpec)

/-- 'columbarylaw07.SdlKinds', WHERE WHAT IT READS IS OF BULK AT MOST 1048576: true; the input reads as it did. -/
def sdlKindsUptoRow : OpenClaim := { program := "ytgephneppgcnlaadoor", sum := "dbbe384de213f1b1c9ed00ca25c173e92279527130c2534b04cce71e1dc1fbd3", func := "columbary/columbarylaw07.SdlKinds", spec := "sdlKinds", inPlace := ["internal/bytealg.IndexByteString", "internal/abi.NoEscape"], unfollowed := true, recurses := true, named := ["strconv.ErrSyntax", "strconv.ErrRange", "internal/strconv.uint64pow10", "math/bits.deBruijn32tab", "math/bits.deBruijn64tab"], apart := false, laid := [("math/bits.deBruijn32tab", laid_math_bits_deBruijn32tab), ("math/bits.deBruijn64tab", laid_math_bits_deBruijn64tab), ("internal/strconv.uint64pow10", laid_internal_strconv_uint64pow10), ("strconv.ErrRange", laid_strconv_ErrRange), ("strconv.ErrSyntax", laid_strconv_ErrSyntax)], narrowed := true }
def SdlKindsUptoSaid : Prop := sdlKindsUptoRow.holds Tryd.pinned (OpenSpec.upto sdlKindsSpec)

end Rows
end Go.Proofs.YtgephneppgcnlaaDoor
