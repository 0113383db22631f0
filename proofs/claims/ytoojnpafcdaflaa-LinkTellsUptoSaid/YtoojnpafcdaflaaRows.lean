/-
  NARROWER THAN 'FOR EVERY INPUT', by the rows' own cells (each row's printed sentence says how): WireSame: loops · WireCut: loops · WireJoins: loops · LinkMutations: loops · WireValues: loops · WireEntities: loops · LinkAsks: loops · LinkTells: loops.
  DERIVED. THE GIVEN ROWS OF THIS SEAT. 14 by the template 'for every input the law returns true; each argument reads behind the call as it read before'; 0 by the template 'total and deterministic' (their statements: YtoojnpafcdaflaaTotals.lean).
  GIVEN WITH THE SEED: the statements are not yours to turn. If you find one false, say at which input.
  Laid BY PROGRAM, IN A SANDBOX (cutbox-rows.mjs): the forced cells as the released guide's own fill.sh prints them over the translation ea1da0704701570d… (all of the seat's roots in one cut). By AI agents, Wed Nov 11 2026. No macro, syntax, notation, axiom, sorry.
-/
import Derived.Test.YtoojnpafcdaflaaChecked
import GoSem.Claim
import GoSem.ClaimJoined
import GoSem.ClaimMapViews
import Derived.JoinedTies
import Derived.KernelRfl
namespace Go.Proofs.Ytoojnpafcdaflaa
/- THE CELL 'sum', in the pinned program and in every row, IS THE sha256 OF THE DUMP (.gsa) THAT YtoojnpafcdaflaaProg.lean LOADS. Nothing in Lean hashes anything: it is a label: what it is worth is what the hold of that sum in a sandbox is worth. -/
noncomputable def Try.pinned : Pinned := { name := "ytoojnpafcdaflaa", sum := "ea1da0704701570d25f2f003d94011636d3f33ec5ca945aa93e28fe2f320150c", checked := Try.checked }
namespace Rows
def none {H : Type} : Left H := { results := [], args := [] }

/-- 'columbarylaw03.WireKeeps': WHATEVER THE INPUT: true; the input reads as it did. -/
def wireKeepsSpec : ChangeSpec := { name := "wireKeeps", fn := fun _ => fun
  | [d1, d2] => { results := [.lit (.bool true)], args := [d1, d2] }
  | _ => none }
def wireKeepsRow : OpenClaim := { program := "ytoojnpafcdaflaa", sum := "ea1da0704701570d25f2f003d94011636d3f33ec5ca945aa93e28fe2f320150c", func := "columbary/columbarylaw03.WireKeeps", spec := "wireKeeps", recurses := true, apart := false }
def WireKeepsSaid : Prop := wireKeepsRow.holds Try.pinned (OpenSpec.ofChange wireKeepsSpec)

/-- ITS FALSE NEIGHBOUR: 'it returns false'. Refute it at one input. -/
def wireKeepsWrong : ChangeSpec := { name := "wireKeeps", fn := fun _ => fun
  | [d1, d2] => { results := [.lit (.bool false)], args := [d1, d2] }
  | _ => none }
def WireKeepsWrongFalsely : Prop := wireKeepsRow.holds Try.pinned (OpenSpec.ofChange wireKeepsWrong)

/-- 'columbarylaw03.WireSame': WHATEVER THE INPUT: true; the input reads as it did. -/
def wireSameSpec : ChangeSpec := { name := "wireSame", fn := fun _ => fun
  | [d1, d2] => { results := [.lit (.bool true)], args := [d1, d2] }
  | _ => none }
def wireSameRow : OpenClaim := { program := "ytoojnpafcdaflaa", sum := "ea1da0704701570d25f2f003d94011636d3f33ec5ca945aa93e28fe2f320150c", func := "columbary/columbarylaw03.WireSame", spec := "wireSame", unfollowed := true, recurses := true, loops := true, apart := false }
def WireSameSaid : Prop := wireSameRow.holds Try.pinned (OpenSpec.ofChange wireSameSpec)

/-- ITS FALSE NEIGHBOUR: 'it returns false'. Refute it at one input. -/
def wireSameWrong : ChangeSpec := { name := "wireSame", fn := fun _ => fun
  | [d1, d2] => { results := [.lit (.bool false)], args := [d1, d2] }
  | _ => none }
def WireSameWrongFalsely : Prop := wireSameRow.holds Try.pinned (OpenSpec.ofChange wireSameWrong)

/-- 'columbarylaw03.WireNumbers': WHATEVER THE INPUT: true; the input reads as it did. -/
def wireNumbersSpec : ChangeSpec := { name := "wireNumbers", fn := fun _ => fun
  | [d1, d2, d3, d4] => { results := [.lit (.bool true)], args := [d1, d2, d3, d4] }
  | _ => none }
def wireNumbersRow : OpenClaim := { program := "ytoojnpafcdaflaa", sum := "ea1da0704701570d25f2f003d94011636d3f33ec5ca945aa93e28fe2f320150c", func := "columbary/columbarylaw03.WireNumbers", spec := "wireNumbers", recurses := true, apart := false }
def WireNumbersSaid : Prop := wireNumbersRow.holds Try.pinned (OpenSpec.ofChange wireNumbersSpec)

/-- ITS FALSE NEIGHBOUR: 'it returns false'. Refute it at one input. -/
def wireNumbersWrong : ChangeSpec := { name := "wireNumbers", fn := fun _ => fun
  | [d1, d2, d3, d4] => { results := [.lit (.bool false)], args := [d1, d2, d3, d4] }
  | _ => none }
def WireNumbersWrongFalsely : Prop := wireNumbersRow.holds Try.pinned (OpenSpec.ofChange wireNumbersWrong)

/-- 'columbarylaw03.WireCut': WHATEVER THE INPUT: true; the input reads as it did. -/
def wireCutSpec : ChangeSpec := { name := "wireCut", fn := fun _ => fun
  | [d1, d2] => { results := [.lit (.bool true)], args := [d1, d2] }
  | _ => none }
def wireCutRow : OpenClaim := { program := "ytoojnpafcdaflaa", sum := "ea1da0704701570d25f2f003d94011636d3f33ec5ca945aa93e28fe2f320150c", func := "columbary/columbarylaw03.WireCut", spec := "wireCut", recurses := true, loops := true, apart := false }
def WireCutSaid : Prop := wireCutRow.holds Try.pinned (OpenSpec.ofChange wireCutSpec)

/-- ITS FALSE NEIGHBOUR: 'it returns false'. Refute it at one input. -/
def wireCutWrong : ChangeSpec := { name := "wireCut", fn := fun _ => fun
  | [d1, d2] => { results := [.lit (.bool false)], args := [d1, d2] }
  | _ => none }
def WireCutWrongFalsely : Prop := wireCutRow.holds Try.pinned (OpenSpec.ofChange wireCutWrong)

/-- 'columbarylaw03.WireSeals': WHATEVER THE INPUT: true; the input reads as it did. -/
def wireSealsSpec : ChangeSpec := { name := "wireSeals", fn := fun _ => fun
  | [d1, d2, d3, d4] => { results := [.lit (.bool true)], args := [d1, d2, d3, d4] }
  | _ => none }
def wireSealsRow : OpenClaim := { program := "ytoojnpafcdaflaa", sum := "ea1da0704701570d25f2f003d94011636d3f33ec5ca945aa93e28fe2f320150c", func := "columbary/columbarylaw03.WireSeals", spec := "wireSeals", recurses := true, apart := false }
def WireSealsSaid : Prop := wireSealsRow.holds Try.pinned (OpenSpec.ofChange wireSealsSpec)

/-- ITS FALSE NEIGHBOUR: 'it returns false'. Refute it at one input. -/
def wireSealsWrong : ChangeSpec := { name := "wireSeals", fn := fun _ => fun
  | [d1, d2, d3, d4] => { results := [.lit (.bool false)], args := [d1, d2, d3, d4] }
  | _ => none }
def WireSealsWrongFalsely : Prop := wireSealsRow.holds Try.pinned (OpenSpec.ofChange wireSealsWrong)

/-- 'columbarylaw03.WireJoins': WHATEVER THE INPUT: true; the input reads as it did. -/
def wireJoinsSpec : ChangeSpec := { name := "wireJoins", fn := fun _ => fun
  | [d] => { results := [.lit (.bool true)], args := [d] }
  | _ => none }
def wireJoinsRow : OpenClaim := { program := "ytoojnpafcdaflaa", sum := "ea1da0704701570d25f2f003d94011636d3f33ec5ca945aa93e28fe2f320150c", func := "columbary/columbarylaw03.WireJoins", spec := "wireJoins", recurses := true, loops := true, apart := false }
def WireJoinsSaid : Prop := wireJoinsRow.holds Try.pinned (OpenSpec.ofChange wireJoinsSpec)

/-- ITS FALSE NEIGHBOUR: 'it returns false'. Refute it at one input. -/
def wireJoinsWrong : ChangeSpec := { name := "wireJoins", fn := fun _ => fun
  | [d] => { results := [.lit (.bool false)], args := [d] }
  | _ => none }
def WireJoinsWrongFalsely : Prop := wireJoinsRow.holds Try.pinned (OpenSpec.ofChange wireJoinsWrong)

/-- 'columbarylaw17.LinkMutations': WHATEVER THE INPUT: true; the input reads as it did. -/
def linkMutationsSpec : ChangeSpec := { name := "linkMutations", fn := fun _ => fun
  | [d] => { results := [.lit (.bool true)], args := [d] }
  | _ => none }
def linkMutationsRow : OpenClaim := { program := "ytoojnpafcdaflaa", sum := "ea1da0704701570d25f2f003d94011636d3f33ec5ca945aa93e28fe2f320150c", func := "columbary/columbarylaw17.LinkMutations", spec := "linkMutations", recurses := true, loops := true, apart := false }
def LinkMutationsSaid : Prop := linkMutationsRow.holds Try.pinned (OpenSpec.ofChange linkMutationsSpec)

/-- ITS FALSE NEIGHBOUR: 'it returns false'. Refute it at one input. -/
def linkMutationsWrong : ChangeSpec := { name := "linkMutations", fn := fun _ => fun
  | [d] => { results := [.lit (.bool false)], args := [d] }
  | _ => none }
def LinkMutationsWrongFalsely : Prop := linkMutationsRow.holds Try.pinned (OpenSpec.ofChange linkMutationsWrong)

/-- 'columbarylaw03.WireNil': WHATEVER THE INPUT: true; the input reads as it did. -/
def wireNilSpec : ChangeSpec := { name := "wireNil", fn := fun _ => fun
  | [d1, d2] => { results := [.lit (.bool true)], args := [d1, d2] }
  | _ => none }
def wireNilRow : OpenClaim := { program := "ytoojnpafcdaflaa", sum := "ea1da0704701570d25f2f003d94011636d3f33ec5ca945aa93e28fe2f320150c", func := "columbary/columbarylaw03.WireNil", spec := "wireNil", recurses := true, apart := false }
def WireNilSaid : Prop := wireNilRow.holds Try.pinned (OpenSpec.ofChange wireNilSpec)

/-- ITS FALSE NEIGHBOUR: 'it returns false'. Refute it at one input. -/
def wireNilWrong : ChangeSpec := { name := "wireNil", fn := fun _ => fun
  | [d1, d2] => { results := [.lit (.bool false)], args := [d1, d2] }
  | _ => none }
def WireNilWrongFalsely : Prop := wireNilRow.holds Try.pinned (OpenSpec.ofChange wireNilWrong)

/-- 'columbarylaw03.WireValues': WHATEVER THE INPUT: true; the input reads as it did. -/
def wireValuesSpec : ChangeSpec := { name := "wireValues", fn := fun _ => fun
  | [d] => { results := [.lit (.bool true)], args := [d] }
  | _ => none }
def wireValuesRow : OpenClaim := { program := "ytoojnpafcdaflaa", sum := "ea1da0704701570d25f2f003d94011636d3f33ec5ca945aa93e28fe2f320150c", func := "columbary/columbarylaw03.WireValues", spec := "wireValues", unfollowed := true, recurses := true, loops := true, apart := false }
def WireValuesSaid : Prop := wireValuesRow.holds Try.pinned (OpenSpec.ofChange wireValuesSpec)

/-- ITS FALSE NEIGHBOUR: 'it returns false'. Refute it at one input. -/
def wireValuesWrong : ChangeSpec := { name := "wireValues", fn := fun _ => fun
  | [d] => { results := [.lit (.bool false)], args := [d] }
  | _ => none }
def WireValuesWrongFalsely : Prop := wireValuesRow.holds Try.pinned (OpenSpec.ofChange wireValuesWrong)

/-- 'columbarylaw03.WireEntities': WHATEVER THE INPUT: true; the input reads as it did. -/
def wireEntitiesSpec : ChangeSpec := { name := "wireEntities", fn := fun _ => fun
  | [d] => { results := [.lit (.bool true)], args := [d] }
  | _ => none }
def wireEntitiesRow : OpenClaim := { program := "ytoojnpafcdaflaa", sum := "ea1da0704701570d25f2f003d94011636d3f33ec5ca945aa93e28fe2f320150c", func := "columbary/columbarylaw03.WireEntities", spec := "wireEntities", recurses := true, loops := true, apart := false }
def WireEntitiesSaid : Prop := wireEntitiesRow.holds Try.pinned (OpenSpec.ofChange wireEntitiesSpec)

/-- ITS FALSE NEIGHBOUR: 'it returns false'. Refute it at one input. -/
def wireEntitiesWrong : ChangeSpec := { name := "wireEntities", fn := fun _ => fun
  | [d] => { results := [.lit (.bool false)], args := [d] }
  | _ => none }
def WireEntitiesWrongFalsely : Prop := wireEntitiesRow.holds Try.pinned (OpenSpec.ofChange wireEntitiesWrong)

/-- 'columbarylaw17.LinkTurned': WHATEVER THE INPUT: true; the input reads as it did. -/
def linkTurnedSpec : ChangeSpec := { name := "linkTurned", fn := fun _ => fun
  | [d1, d2, d3, d4, d5] => { results := [.lit (.bool true)], args := [d1, d2, d3, d4, d5] }
  | _ => none }
def linkTurnedRow : OpenClaim := { program := "ytoojnpafcdaflaa", sum := "ea1da0704701570d25f2f003d94011636d3f33ec5ca945aa93e28fe2f320150c", func := "columbary/columbarylaw17.LinkTurned", spec := "linkTurned", recurses := true, apart := false }
def LinkTurnedSaid : Prop := linkTurnedRow.holds Try.pinned (OpenSpec.ofChange linkTurnedSpec)

/-- ITS FALSE NEIGHBOUR: 'it returns false'. Refute it at one input. -/
def linkTurnedWrong : ChangeSpec := { name := "linkTurned", fn := fun _ => fun
  | [d1, d2, d3, d4, d5] => { results := [.lit (.bool false)], args := [d1, d2, d3, d4, d5] }
  | _ => none }
def LinkTurnedWrongFalsely : Prop := linkTurnedRow.holds Try.pinned (OpenSpec.ofChange linkTurnedWrong)

/-- 'columbarylaw17.LinkAsks': WHATEVER THE INPUT: true; the input reads as it did. -/
def linkAsksSpec : ChangeSpec := { name := "linkAsks", fn := fun _ => fun
  | [d] => { results := [.lit (.bool true)], args := [d] }
  | _ => none }
def linkAsksRow : OpenClaim := { program := "ytoojnpafcdaflaa", sum := "ea1da0704701570d25f2f003d94011636d3f33ec5ca945aa93e28fe2f320150c", func := "columbary/columbarylaw17.LinkAsks", spec := "linkAsks", recurses := true, loops := true, apart := false }
def LinkAsksSaid : Prop := linkAsksRow.holds Try.pinned (OpenSpec.ofChange linkAsksSpec)

/-- ITS FALSE NEIGHBOUR: 'it returns false'. Refute it at one input. -/
def linkAsksWrong : ChangeSpec := { name := "linkAsks", fn := fun _ => fun
  | [d] => { results := [.lit (.bool false)], args := [d] }
  | _ => none }
def LinkAsksWrongFalsely : Prop := linkAsksRow.holds Try.pinned (OpenSpec.ofChange linkAsksWrong)

/-- 'columbarylaw17.LinkTells': WHATEVER THE INPUT: true; the input reads as it did. -/
def linkTellsSpec : ChangeSpec := { name := "linkTells", fn := fun _ => fun
  | [d] => { results := [.lit (.bool true)], args := [d] }
  | _ => none }
def linkTellsRow : OpenClaim := { program := "ytoojnpafcdaflaa", sum := "ea1da0704701570d25f2f003d94011636d3f33ec5ca945aa93e28fe2f320150c", func := "columbary/columbarylaw17.LinkTells", spec := "linkTells", recurses := true, loops := true, apart := false }
def LinkTellsSaid : Prop := linkTellsRow.holds Try.pinned (OpenSpec.ofChange linkTellsSpec)

/-- ITS FALSE NEIGHBOUR: 'it returns false'. Refute it at one input. -/
def linkTellsWrong : ChangeSpec := { name := "linkTells", fn := fun _ => fun
  | [d] => { results := [.lit (.bool false)], args := [d] }
  | _ => none }
def LinkTellsWrongFalsely : Prop := linkTellsRow.holds Try.pinned (OpenSpec.ofChange linkTellsWrong)

/-- 'columbarylaw17.LinkReads': WHATEVER THE INPUT: true; the input reads as it did. -/
def linkReadsSpec : ChangeSpec := { name := "linkReads", fn := fun _ => fun
  | [d1, d2] => { results := [.lit (.bool true)], args := [d1, d2] }
  | _ => none }
def linkReadsRow : OpenClaim := { program := "ytoojnpafcdaflaa", sum := "ea1da0704701570d25f2f003d94011636d3f33ec5ca945aa93e28fe2f320150c", func := "columbary/columbarylaw17.LinkReads", spec := "linkReads", recurses := true, apart := false }
def LinkReadsSaid : Prop := linkReadsRow.holds Try.pinned (OpenSpec.ofChange linkReadsSpec)

/-- ITS FALSE NEIGHBOUR: 'it returns false'. Refute it at one input. -/
def linkReadsWrong : ChangeSpec := { name := "linkReads", fn := fun _ => fun
  | [d1, d2] => { results := [.lit (.bool false)], args := [d1, d2] }
  | _ => none }
def LinkReadsWrongFalsely : Prop := linkReadsRow.holds Try.pinned (OpenSpec.ofChange linkReadsWrong)

/- THE SECOND FORM. 'bulk': how many values and letters a reading holds, each counted each time it is reached (what is shared counts as often as it is met; a slice's spare places count too). A statement '..UptoSaid' is the law's where the arguments, and the package variables that the reading takes, are together of bulk at most 1048576: NARROWER than '..Said'. Prove '..Said' where nothing that the law and all that it calls make is longer than what came in: it says more and counts as full. Else prove '..UptoSaid'. A law counts once. -/
mutual
def uptoBulk {H : Type} : DataW H → Nat
  | .lit (.string bytes) => bytes.length + 1
  | .lit _ => 1
  | .nil => 1
  | .ptr d => uptoBulk d + 1
  | .slice elems spare => uptoBulkAll elems + uptoBulkAll spare + 1
  | .agg parts => uptoBulkAll parts + 1
  | .iface _ d => uptoBulk d + 1
  | .map entries => uptoBulkEntries entries + 1
  | .held _ => 1
def uptoBulkAll {H : Type} : List (DataW H) → Nat
  | [] => 0
  | d :: r => uptoBulk d + uptoBulkAll r
def uptoBulkEntries {H : Type} : List (Lit × DataW H) → Nat
  | [] => 0
  | x :: r => uptoBulkEntry x + uptoBulkEntries r
def uptoBulkEntry {H : Type} : Lit × DataW H → Nat
  | (.string bytes, d) => bytes.length + uptoBulk d + 1
  | (_, d) => uptoBulk d + 1
 end
def uptoSmall : (H : Type) → List (DataW H) → Bool := fun _ ds => decide (uptoBulkAll ds ≤ 1048576)
def OpenSpec.upto (s : _root_.Go.ChangeSpec) : _root_.Go.OpenSpec := { _root_.Go.OpenSpec.ofChange s with cond := some uptoSmall }

/-- 'columbarylaw03.WireKeeps', WHERE WHAT IT READS IS OF BULK AT MOST 1048576: true; the input reads as it did. -/
def wireKeepsUptoRow : OpenClaim := { program := "ytoojnpafcdaflaa", sum := "ea1da0704701570d25f2f003d94011636d3f33ec5ca945aa93e28fe2f320150c", func := "columbary/columbarylaw03.WireKeeps", spec := "wireKeeps", recurses := true, apart := false, narrowed := true }
def WireKeepsUptoSaid : Prop := wireKeepsUptoRow.holds Try.pinned (OpenSpec.upto wireKeepsSpec)

/-- 'columbarylaw03.WireSame', WHERE WHAT IT READS IS OF BULK AT MOST 1048576: true; the input reads as it did. -/
def wireSameUptoRow : OpenClaim := { program := "ytoojnpafcdaflaa", sum := "ea1da0704701570d25f2f003d94011636d3f33ec5ca945aa93e28fe2f320150c", func := "columbary/columbarylaw03.WireSame", spec := "wireSame", unfollowed := true, recurses := true, loops := true, apart := false, narrowed := true }
def WireSameUptoSaid : Prop := wireSameUptoRow.holds Try.pinned (OpenSpec.upto wireSameSpec)

/-- 'columbarylaw03.WireNumbers', WHERE WHAT IT READS IS OF BULK AT MOST 1048576: true; the input reads as it did. -/
def wireNumbersUptoRow : OpenClaim := { program := "ytoojnpafcdaflaa", sum := "ea1da0704701570d25f2f003d94011636d3f33ec5ca945aa93e28fe2f320150c", func := "columbary/columbarylaw03.WireNumbers", spec := "wireNumbers", recurses := true, apart := false, narrowed := true }
def WireNumbersUptoSaid : Prop := wireNumbersUptoRow.holds Try.pinned (OpenSpec.upto wireNumbersSpec)

/-- 'columbarylaw03.WireCut', WHERE WHAT IT READS IS OF BULK AT MOST 1048576: true; the input reads as it did. -/
def wireCutUptoRow : OpenClaim := { program := "ytoojnpafcdaflaa", sum := "ea1da0704701570d25f2f003d94011636d3f33ec5ca945aa93e28fe2f320150c", func := "columbary/columbarylaw03.WireCut", spec := "wireCut", recurses := true, loops := true, apart := false, narrowed := true }
def WireCutUptoSaid : Prop := wireCutUptoRow.holds Try.pinned (OpenSpec.upto wireCutSpec)

/-- 'columbarylaw03.WireSeals', WHERE WHAT IT READS IS OF BULK AT MOST 1048576: true; the input reads as it did. -/
def wireSealsUptoRow : OpenClaim := { program := "ytoojnpafcdaflaa", sum := "ea1da0704701570d25f2f003d94011636d3f33ec5ca945aa93e28fe2f320150c", func := "columbary/columbarylaw03.WireSeals", spec := "wireSeals", recurses := true, apart := false, narrowed := true }
def WireSealsUptoSaid : Prop := wireSealsUptoRow.holds Try.pinned (OpenSpec.upto wireSealsSpec)

/-- 'columbarylaw03.WireJoins', WHERE WHAT IT READS IS OF BULK AT MOST 1048576: true; the input reads as it did. -/
def wireJoinsUptoRow : OpenClaim := { program := "ytoojnpafcdaflaa", sum := "ea1da0704701570d25f2f003d94011636d3f33ec5ca945aa93e28fe2f320150c", func := "columbary/columbarylaw03.WireJoins", spec := "wireJoins", recurses := true, loops := true, apart := false, narrowed := true }
def WireJoinsUptoSaid : Prop := wireJoinsUptoRow.holds Try.pinned (OpenSpec.upto wireJoinsSpec)

/-- 'columbarylaw17.LinkMutations', WHERE WHAT IT READS IS OF BULK AT MOST 1048576: true; the input reads as it did. -/
def linkMutationsUptoRow : OpenClaim := { program := "ytoojnpafcdaflaa", sum := "ea1da0704701570d25f2f003d94011636d3f33ec5ca945aa93e28fe2f320150c", func := "columbary/columbarylaw17.LinkMutations", spec := "linkMutations", recurses := true, loops := true, apart := false, narrowed := true }
def LinkMutationsUptoSaid : Prop := linkMutationsUptoRow.holds Try.pinned (OpenSpec.upto linkMutationsSpec)

/-- 'columbarylaw03.WireNil', WHERE WHAT IT READS IS OF BULK AT MOST 1048576: true; the input reads as it did. -/
def wireNilUptoRow : OpenClaim := { program := "ytoojnpafcdaflaa", sum := "ea1da0704701570d25f2f003d94011636d3f33ec5ca945aa93e28fe2f320150c", func := "columbary/columbarylaw03.WireNil", spec := "wireNil", recurses := true, apart := false, narrowed := true }
def WireNilUptoSaid : Prop := wireNilUptoRow.holds Try.pinned (OpenSpec.upto wireNilSpec)

/-- 'columbarylaw03.WireValues', WHERE WHAT IT READS IS OF BULK AT MOST 1048576: true; the input reads as it did. -/
def wireValuesUptoRow : OpenClaim := { program := "ytoojnpafcdaflaa", sum := "ea1da0704701570d25f2f003d94011636d3f33ec5ca945aa93e28fe2f320150c", func := "columbary/columbarylaw03.WireValues", spec := "wireValues", unfollowed := true, recurses := true, loops := true, apart := false, narrowed := true }
def WireValuesUptoSaid : Prop := wireValuesUptoRow.holds Try.pinned (OpenSpec.upto wireValuesSpec)

/-- 'columbarylaw03.WireEntities', WHERE WHAT IT READS IS OF BULK AT MOST 1048576: true; the input reads as it did. -/
def wireEntitiesUptoRow : OpenClaim := { program := "ytoojnpafcdaflaa", sum := "ea1da0704701570d25f2f003d94011636d3f33ec5ca945aa93e28fe2f320150c", func := "columbary/columbarylaw03.WireEntities", spec := "wireEntities", recurses := true, loops := true, apart := false, narrowed := true }
def WireEntitiesUptoSaid : Prop := wireEntitiesUptoRow.holds Try.pinned (OpenSpec.upto wireEntitiesSpec)

/-- 'columbarylaw17.LinkTurned', WHERE WHAT IT READS IS OF BULK AT MOST 1048576: true; the input reads as it did. -/
def linkTurnedUptoRow : OpenClaim := { program := "ytoojnpafcdaflaa", sum := "ea1da0704701570d25f2f003d94011636d3f33ec5ca945aa93e28fe2f320150c", func := "columbary/columbarylaw17.LinkTurned", spec := "linkTurned", recurses := true, apart := false, narrowed := true }
def LinkTurnedUptoSaid : Prop := linkTurnedUptoRow.holds Try.pinned (OpenSpec.upto linkTurnedSpec)

/-- 'columbarylaw17.LinkAsks', WHERE WHAT IT READS IS OF BULK AT MOST 1048576: true; the input reads as it did. -/
def linkAsksUptoRow : OpenClaim := { program := "ytoojnpafcdaflaa", sum := "ea1da0704701570d25f2f003d94011636d3f33ec5ca945aa93e28fe2f320150c", func := "columbary/columbarylaw17.LinkAsks", spec := "linkAsks", recurses := true, loops := true, apart := false, narrowed := true }
def LinkAsksUptoSaid : Prop := linkAsksUptoRow.holds Try.pinned (OpenSpec.upto linkAsksSpec)

/-- 'columbarylaw17.LinkTells', WHERE WHAT IT READS IS OF BULK AT MOST 1048576: true; the input reads as it did. -/
def linkTellsUptoRow : OpenClaim := { program := "ytoojnpafcdaflaa", sum := "ea1da0704701570d25f2f003d94011636d3f33ec5ca945aa93e28fe2f320150c", func := "columbary/columbarylaw17.LinkTells", spec := "linkTells", recurses := true, loops := true, apart := false, narrowed := true }
def LinkTellsUptoSaid : Prop := linkTellsUptoRow.holds Try.pinned (OpenSpec.upto linkTellsSpec)

/-- 'columbarylaw17.LinkReads', WHERE WHAT IT READS IS OF BULK AT MOST 1048576: true; the input reads as it did. -/
def linkReadsUptoRow : OpenClaim := { program := "ytoojnpafcdaflaa", sum := "ea1da0704701570d25f2f003d94011636d3f33ec5ca945aa93e28fe2f320150c", func := "columbary/columbarylaw17.LinkReads", spec := "linkReads", recurses := true, apart := false, narrowed := true }
def LinkReadsUptoSaid : Prop := linkReadsUptoRow.holds Try.pinned (OpenSpec.upto linkReadsSpec)

end Rows
end Go.Proofs.Ytoojnpafcdaflaa
