/-
  No cell of these rows narrows 'for every input' (looked for: loops, veiled, ifaces, maps, wideKeys, modest, calm, conditions, laid).
  DERIVED. THE GIVEN ROWS OF THIS SEAT. 13 by the template 'for every input the law returns true; each argument reads behind the call as it read before'; 0 by the template 'total and deterministic' (their statements: YtlkglhgndfhjeaaTotals.lean).
  GIVEN WITH THE SEED: the statements are not yours to turn. If you find one false, say at which input.
  Laid BY PROGRAM, IN A SANDBOX (cutbox-rows.mjs): the forced cells as the released guide's own fill.sh prints them over the translation 53f02a28886ade2c… (all of the seat's roots in one cut). By AI agents, Wed Nov 11 2026. No macro, syntax, notation, axiom, sorry.
-/
import Derived.Test.YtlkglhgndfhjeaaChecked
import GoSem.Claim
import GoSem.ClaimJoined
import GoSem.ClaimMapViews
import Derived.JoinedTies
import Derived.KernelRfl
namespace Go.Proofs.Ytlkglhgndfhjeaa
/- THE CELL 'sum', in the pinned program and in every row, IS THE sha256 OF THE DUMP (.gsa) THAT YtlkglhgndfhjeaaProg.lean LOADS. Nothing in Lean hashes anything: it is a label: what it is worth is what the hold of that sum in a sandbox is worth. -/
noncomputable def Try.pinned : Pinned := { name := "ytlkglhgndfhjeaa", sum := "53f02a28886ade2c22a7c626fa9ffaae72846648487196ab3e3a4ade846b44ed", checked := Try.checked }
namespace Rows
def none {H : Type} : Left H := { results := [], args := [] }

/-- 'columbarylaw01.BlockTorn': WHATEVER THE INPUT: true; the input reads as it did. -/
def blockTornSpec : ChangeSpec := { name := "blockTorn", fn := fun _ => fun
  | [d1, d2, d3, d4] => { results := [.lit (.bool true)], args := [d1, d2, d3, d4] }
  | _ => none }
def blockTornRow : OpenClaim := { program := "ytlkglhgndfhjeaa", sum := "53f02a28886ade2c22a7c626fa9ffaae72846648487196ab3e3a4ade846b44ed", func := "columbary/columbarylaw01.BlockTorn", spec := "blockTorn", apart := false }
def BlockTornSaid : Prop := blockTornRow.holds Try.pinned (OpenSpec.ofChange blockTornSpec)

/-- ITS FALSE NEIGHBOUR: 'it returns false'. Refute it at one input. -/
def blockTornWrong : ChangeSpec := { name := "blockTorn", fn := fun _ => fun
  | [d1, d2, d3, d4] => { results := [.lit (.bool false)], args := [d1, d2, d3, d4] }
  | _ => none }
def BlockTornWrongFalsely : Prop := blockTornRow.holds Try.pinned (OpenSpec.ofChange blockTornWrong)

/-- 'columbarylaw01.BlockKeeps': WHATEVER THE INPUT: true; the input reads as it did. -/
def blockKeepsSpec : ChangeSpec := { name := "blockKeeps", fn := fun _ => fun
  | [d] => { results := [.lit (.bool true)], args := [d] }
  | _ => none }
def blockKeepsRow : OpenClaim := { program := "ytlkglhgndfhjeaa", sum := "53f02a28886ade2c22a7c626fa9ffaae72846648487196ab3e3a4ade846b44ed", func := "columbary/columbarylaw01.BlockKeeps", spec := "blockKeeps", apart := false }
def BlockKeepsSaid : Prop := blockKeepsRow.holds Try.pinned (OpenSpec.ofChange blockKeepsSpec)

/-- ITS FALSE NEIGHBOUR: 'it returns false'. Refute it at one input. -/
def blockKeepsWrong : ChangeSpec := { name := "blockKeeps", fn := fun _ => fun
  | [d] => { results := [.lit (.bool false)], args := [d] }
  | _ => none }
def BlockKeepsWrongFalsely : Prop := blockKeepsRow.holds Try.pinned (OpenSpec.ofChange blockKeepsWrong)

/-- 'columbarylaw01.BlockFirst': WHATEVER THE INPUT: true; the input reads as it did. -/
def blockFirstSpec : ChangeSpec := { name := "blockFirst", fn := fun _ => fun
  | [d1, d2] => { results := [.lit (.bool true)], args := [d1, d2] }
  | _ => none }
def blockFirstRow : OpenClaim := { program := "ytlkglhgndfhjeaa", sum := "53f02a28886ade2c22a7c626fa9ffaae72846648487196ab3e3a4ade846b44ed", func := "columbary/columbarylaw01.BlockFirst", spec := "blockFirst", apart := false }
def BlockFirstSaid : Prop := blockFirstRow.holds Try.pinned (OpenSpec.ofChange blockFirstSpec)

/-- ITS FALSE NEIGHBOUR: 'it returns false'. Refute it at one input. -/
def blockFirstWrong : ChangeSpec := { name := "blockFirst", fn := fun _ => fun
  | [d1, d2] => { results := [.lit (.bool false)], args := [d1, d2] }
  | _ => none }
def BlockFirstWrongFalsely : Prop := blockFirstRow.holds Try.pinned (OpenSpec.ofChange blockFirstWrong)

/-- 'columbarylaw01.BlockSyncs': WHATEVER THE INPUT: true; the input reads as it did. -/
def blockSyncsSpec : ChangeSpec := { name := "blockSyncs", fn := fun _ => fun
  | [d1, d2, d3] => { results := [.lit (.bool true)], args := [d1, d2, d3] }
  | _ => none }
def blockSyncsRow : OpenClaim := { program := "ytlkglhgndfhjeaa", sum := "53f02a28886ade2c22a7c626fa9ffaae72846648487196ab3e3a4ade846b44ed", func := "columbary/columbarylaw01.BlockSyncs", spec := "blockSyncs", apart := false }
def BlockSyncsSaid : Prop := blockSyncsRow.holds Try.pinned (OpenSpec.ofChange blockSyncsSpec)

/-- ITS FALSE NEIGHBOUR: 'it returns false'. Refute it at one input. -/
def blockSyncsWrong : ChangeSpec := { name := "blockSyncs", fn := fun _ => fun
  | [d1, d2, d3] => { results := [.lit (.bool false)], args := [d1, d2, d3] }
  | _ => none }
def BlockSyncsWrongFalsely : Prop := blockSyncsRow.holds Try.pinned (OpenSpec.ofChange blockSyncsWrong)

/-- 'columbarylaw01.BlockArms': WHATEVER THE INPUT: true; the input reads as it did. -/
def blockArmsSpec : ChangeSpec := { name := "blockArms", fn := fun _ => fun
  | [d1, d2] => { results := [.lit (.bool true)], args := [d1, d2] }
  | _ => none }
def blockArmsRow : OpenClaim := { program := "ytlkglhgndfhjeaa", sum := "53f02a28886ade2c22a7c626fa9ffaae72846648487196ab3e3a4ade846b44ed", func := "columbary/columbarylaw01.BlockArms", spec := "blockArms", apart := false }
def BlockArmsSaid : Prop := blockArmsRow.holds Try.pinned (OpenSpec.ofChange blockArmsSpec)

/-- ITS FALSE NEIGHBOUR: 'it returns false'. Refute it at one input. -/
def blockArmsWrong : ChangeSpec := { name := "blockArms", fn := fun _ => fun
  | [d1, d2] => { results := [.lit (.bool false)], args := [d1, d2] }
  | _ => none }
def BlockArmsWrongFalsely : Prop := blockArmsRow.holds Try.pinned (OpenSpec.ofChange blockArmsWrong)

/-- 'columbarylaw01.BlockPlays': WHATEVER THE INPUT: true; the input reads as it did. -/
def blockPlaysSpec : ChangeSpec := { name := "blockPlays", fn := fun _ => fun
  | [d1, d2] => { results := [.lit (.bool true)], args := [d1, d2] }
  | _ => none }
def blockPlaysRow : OpenClaim := { program := "ytlkglhgndfhjeaa", sum := "53f02a28886ade2c22a7c626fa9ffaae72846648487196ab3e3a4ade846b44ed", func := "columbary/columbarylaw01.BlockPlays", spec := "blockPlays", apart := false }
def BlockPlaysSaid : Prop := blockPlaysRow.holds Try.pinned (OpenSpec.ofChange blockPlaysSpec)

/-- ITS FALSE NEIGHBOUR: 'it returns false'. Refute it at one input. -/
def blockPlaysWrong : ChangeSpec := { name := "blockPlays", fn := fun _ => fun
  | [d1, d2] => { results := [.lit (.bool false)], args := [d1, d2] }
  | _ => none }
def BlockPlaysWrongFalsely : Prop := blockPlaysRow.holds Try.pinned (OpenSpec.ofChange blockPlaysWrong)

/-- 'columbarylaw01.BlockNil': WHATEVER THE INPUT: true; the input reads as it did. -/
def blockNilSpec : ChangeSpec := { name := "blockNil", fn := fun _ => fun
  | [d1, d2] => { results := [.lit (.bool true)], args := [d1, d2] }
  | _ => none }
def blockNilRow : OpenClaim := { program := "ytlkglhgndfhjeaa", sum := "53f02a28886ade2c22a7c626fa9ffaae72846648487196ab3e3a4ade846b44ed", func := "columbary/columbarylaw01.BlockNil", spec := "blockNil", apart := false }
def BlockNilSaid : Prop := blockNilRow.holds Try.pinned (OpenSpec.ofChange blockNilSpec)

/-- ITS FALSE NEIGHBOUR: 'it returns false'. Refute it at one input. -/
def blockNilWrong : ChangeSpec := { name := "blockNil", fn := fun _ => fun
  | [d1, d2] => { results := [.lit (.bool false)], args := [d1, d2] }
  | _ => none }
def BlockNilWrongFalsely : Prop := blockNilRow.holds Try.pinned (OpenSpec.ofChange blockNilWrong)

/-- 'columbarylaw02.LedgerSums': WHATEVER THE INPUT: true; the input reads as it did. -/
def ledgerSumsSpec : ChangeSpec := { name := "ledgerSums", fn := fun _ => fun
  | [d] => { results := [.lit (.bool true)], args := [d] }
  | _ => none }
def ledgerSumsRow : OpenClaim := { program := "ytlkglhgndfhjeaa", sum := "53f02a28886ade2c22a7c626fa9ffaae72846648487196ab3e3a4ade846b44ed", func := "columbary/columbarylaw02.LedgerSums", spec := "ledgerSums", apart := false }
def LedgerSumsSaid : Prop := ledgerSumsRow.holds Try.pinned (OpenSpec.ofChange ledgerSumsSpec)

/-- ITS FALSE NEIGHBOUR: 'it returns false'. Refute it at one input. -/
def ledgerSumsWrong : ChangeSpec := { name := "ledgerSums", fn := fun _ => fun
  | [d] => { results := [.lit (.bool false)], args := [d] }
  | _ => none }
def LedgerSumsWrongFalsely : Prop := ledgerSumsRow.holds Try.pinned (OpenSpec.ofChange ledgerSumsWrong)

/-- 'columbarylaw02.LedgerApart': WHATEVER THE INPUT: true; the input reads as it did. -/
def ledgerApartSpec : ChangeSpec := { name := "ledgerApart", fn := fun _ => fun
  | [d1, d2] => { results := [.lit (.bool true)], args := [d1, d2] }
  | _ => none }
def ledgerApartRow : OpenClaim := { program := "ytlkglhgndfhjeaa", sum := "53f02a28886ade2c22a7c626fa9ffaae72846648487196ab3e3a4ade846b44ed", func := "columbary/columbarylaw02.LedgerApart", spec := "ledgerApart", apart := false }
def LedgerApartSaid : Prop := ledgerApartRow.holds Try.pinned (OpenSpec.ofChange ledgerApartSpec)

/-- ITS FALSE NEIGHBOUR: 'it returns false'. Refute it at one input. -/
def ledgerApartWrong : ChangeSpec := { name := "ledgerApart", fn := fun _ => fun
  | [d1, d2] => { results := [.lit (.bool false)], args := [d1, d2] }
  | _ => none }
def LedgerApartWrongFalsely : Prop := ledgerApartRow.holds Try.pinned (OpenSpec.ofChange ledgerApartWrong)

/-- 'columbarylaw02.LedgerRoom': WHATEVER THE INPUT: true; the input reads as it did. -/
def ledgerRoomSpec : ChangeSpec := { name := "ledgerRoom", fn := fun _ => fun
  | [d1, d2] => { results := [.lit (.bool true)], args := [d1, d2] }
  | _ => none }
def ledgerRoomRow : OpenClaim := { program := "ytlkglhgndfhjeaa", sum := "53f02a28886ade2c22a7c626fa9ffaae72846648487196ab3e3a4ade846b44ed", func := "columbary/columbarylaw02.LedgerRoom", spec := "ledgerRoom", apart := false }
def LedgerRoomSaid : Prop := ledgerRoomRow.holds Try.pinned (OpenSpec.ofChange ledgerRoomSpec)

/-- ITS FALSE NEIGHBOUR: 'it returns false'. Refute it at one input. -/
def ledgerRoomWrong : ChangeSpec := { name := "ledgerRoom", fn := fun _ => fun
  | [d1, d2] => { results := [.lit (.bool false)], args := [d1, d2] }
  | _ => none }
def LedgerRoomWrongFalsely : Prop := ledgerRoomRow.holds Try.pinned (OpenSpec.ofChange ledgerRoomWrong)

/-- 'columbarylaw02.LedgerKeeps': WHATEVER THE INPUT: true; the input reads as it did. -/
def ledgerKeepsSpec : ChangeSpec := { name := "ledgerKeeps", fn := fun _ => fun
  | [d] => { results := [.lit (.bool true)], args := [d] }
  | _ => none }
def ledgerKeepsRow : OpenClaim := { program := "ytlkglhgndfhjeaa", sum := "53f02a28886ade2c22a7c626fa9ffaae72846648487196ab3e3a4ade846b44ed", func := "columbary/columbarylaw02.LedgerKeeps", spec := "ledgerKeeps", apart := false }
def LedgerKeepsSaid : Prop := ledgerKeepsRow.holds Try.pinned (OpenSpec.ofChange ledgerKeepsSpec)

/-- ITS FALSE NEIGHBOUR: 'it returns false'. Refute it at one input. -/
def ledgerKeepsWrong : ChangeSpec := { name := "ledgerKeeps", fn := fun _ => fun
  | [d] => { results := [.lit (.bool false)], args := [d] }
  | _ => none }
def LedgerKeepsWrongFalsely : Prop := ledgerKeepsRow.holds Try.pinned (OpenSpec.ofChange ledgerKeepsWrong)

/-- 'columbarylaw02.LedgerErrs': WHATEVER THE INPUT: true; the input reads as it did. -/
def ledgerErrsSpec : ChangeSpec := { name := "ledgerErrs", fn := fun _ => fun
  | [d1, d2, d3] => { results := [.lit (.bool true)], args := [d1, d2, d3] }
  | _ => none }
def ledgerErrsRow : OpenClaim := { program := "ytlkglhgndfhjeaa", sum := "53f02a28886ade2c22a7c626fa9ffaae72846648487196ab3e3a4ade846b44ed", func := "columbary/columbarylaw02.LedgerErrs", spec := "ledgerErrs", apart := false }
def LedgerErrsSaid : Prop := ledgerErrsRow.holds Try.pinned (OpenSpec.ofChange ledgerErrsSpec)

/-- ITS FALSE NEIGHBOUR: 'it returns false'. Refute it at one input. -/
def ledgerErrsWrong : ChangeSpec := { name := "ledgerErrs", fn := fun _ => fun
  | [d1, d2, d3] => { results := [.lit (.bool false)], args := [d1, d2, d3] }
  | _ => none }
def LedgerErrsWrongFalsely : Prop := ledgerErrsRow.holds Try.pinned (OpenSpec.ofChange ledgerErrsWrong)

/-- 'columbarylaw02.LedgerPlays': WHATEVER THE INPUT: true; the input reads as it did. -/
def ledgerPlaysSpec : ChangeSpec := { name := "ledgerPlays", fn := fun _ => fun
  | [d1, d2] => { results := [.lit (.bool true)], args := [d1, d2] }
  | _ => none }
def ledgerPlaysRow : OpenClaim := { program := "ytlkglhgndfhjeaa", sum := "53f02a28886ade2c22a7c626fa9ffaae72846648487196ab3e3a4ade846b44ed", func := "columbary/columbarylaw02.LedgerPlays", spec := "ledgerPlays", apart := false }
def LedgerPlaysSaid : Prop := ledgerPlaysRow.holds Try.pinned (OpenSpec.ofChange ledgerPlaysSpec)

/-- ITS FALSE NEIGHBOUR: 'it returns false'. Refute it at one input. -/
def ledgerPlaysWrong : ChangeSpec := { name := "ledgerPlays", fn := fun _ => fun
  | [d1, d2] => { results := [.lit (.bool false)], args := [d1, d2] }
  | _ => none }
def LedgerPlaysWrongFalsely : Prop := ledgerPlaysRow.holds Try.pinned (OpenSpec.ofChange ledgerPlaysWrong)

/- THE SECOND FORM. 'bulk': how many values and letters a reading holds, each counted each time it is reached (what is shared counts as often as it is met; a slice's spare places count too). A statement '..UptoSaid' is the law's where the arguments, and the package variables that the reading takes, are together of bulk at most 1048576: NARROWER than '..Said'. Prove '..Said' where nothing that the law and all that it calls make is longer than what came in: it says more and counts as full. Else prove '..UptoSaid'. A law counts once. -/
mutual
def uptoBulk {H : Type} : DataW H → Nat
  | .lit (.string bytes) => bytes.length + 1
  | .lit _ => 1
  | .nil => 1
  | .ptr d => uptoBulk d + 1
  | .slice elems spare => uptoBulkAll elems + uptoBulkAll spare + 1
  | .agg parts => uptoBulkAll parts + 1
  | .iface _ d => uptoBulk d + 1
  | .map entries => uptoBulkEntries entries + 1
  | .held _ => 1
def uptoBulkAll {H : Type} : List (DataW H) → Nat
  | [] => 0
  | d :: r => uptoBulk d + uptoBulkAll r
def uptoBulkEntries {H : Type} : List (Lit × DataW H) → Nat
  | [] => 0
  | x :: r => uptoBulkEntry x + uptoBulkEntries r
def uptoBulkEntry {H : Type} : Lit × DataW H → Nat
  | (.string bytes, d) => bytes.length + uptoBulk d + 1
  | (_, d) => uptoBulk d + 1
 end
def uptoSmall : (H : Type) → List (DataW H) → Bool := fun _ ds => decide (uptoBulkAll ds ≤ 1048576)
def OpenSpec.upto (s : _root_.Go.ChangeSpec) : _root_.Go.OpenSpec := { _root_.Go.OpenSpec.ofChange s with cond := some uptoSmall }

/-- 'columbarylaw01.BlockTorn', WHERE WHAT IT READS IS OF BULK AT MOST 1048576: true; the input reads as it did. -/
def blockTornUptoRow : OpenClaim := { program := "ytlkglhgndfhjeaa", sum := "53f02a28886ade2c22a7c626fa9ffaae72846648487196ab3e3a4ade846b44ed", func := "columbary/columbarylaw01.BlockTorn", spec := "blockTorn", apart := false, narrowed := true }
def BlockTornUptoSaid : Prop := blockTornUptoRow.holds Try.pinned (OpenSpec.upto blockTornSpec)

/-- 'columbarylaw01.BlockKeeps', WHERE WHAT IT READS IS OF BULK AT MOST 1048576: true; the input reads as it did. -/
def blockKeepsUptoRow : OpenClaim := { program := "ytlkglhgndfhjeaa", sum := "53f02a28886ade2c22a7c626fa9ffaae72846648487196ab3e3a4ade846b44ed", func := "columbary/columbarylaw01.BlockKeeps", spec := "blockKeeps", apart := false, narrowed := true }
def BlockKeepsUptoSaid : Prop := blockKeepsUptoRow.holds Try.pinned (OpenSpec.upto blockKeepsSpec)

/-- 'columbarylaw01.BlockFirst', WHERE WHAT IT READS IS OF BULK AT MOST 1048576: true; the input reads as it did. -/
def blockFirstUptoRow : OpenClaim := { program := "ytlkglhgndfhjeaa", sum := "53f02a28886ade2c22a7c626fa9ffaae72846648487196ab3e3a4ade846b44ed", func := "columbary/columbarylaw01.BlockFirst", spec := "blockFirst", apart := false, narrowed := true }
def BlockFirstUptoSaid : Prop := blockFirstUptoRow.holds Try.pinned (OpenSpec.upto blockFirstSpec)

/-- 'columbarylaw01.BlockSyncs', WHERE WHAT IT READS IS OF BULK AT MOST 1048576: true; the input reads as it did. -/
def blockSyncsUptoRow : OpenClaim := { program := "ytlkglhgndfhjeaa", sum := "53f02a28886ade2c22a7c626fa9ffaae72846648487196ab3e3a4ade846b44ed", func := "columbary/columbarylaw01.BlockSyncs", spec := "blockSyncs", apart := false, narrowed := true }
def BlockSyncsUptoSaid : Prop := blockSyncsUptoRow.holds Try.pinned (OpenSpec.upto blockSyncsSpec)

/-- 'columbarylaw01.BlockArms', WHERE WHAT IT READS IS OF BULK AT MOST 1048576: true; the input reads as it did. -/
def blockArmsUptoRow : OpenClaim := { program := "ytlkglhgndfhjeaa", sum := "53f02a28886ade2c22a7c626fa9ffaae72846648487196ab3e3a4ade846b44ed", func := "columbary/columbarylaw01.BlockArms", spec := "blockArms", apart := false, narrowed := true }
def BlockArmsUptoSaid : Prop := blockArmsUptoRow.holds Try.pinned (OpenSpec.upto blockArmsSpec)

/-- 'columbarylaw01.BlockPlays', WHERE WHAT IT READS IS OF BULK AT MOST 1048576: true; the input reads as it did. -/
def blockPlaysUptoRow : OpenClaim := { program := "ytlkglhgndfhjeaa", sum := "53f02a28886ade2c22a7c626fa9ffaae72846648487196ab3e3a4ade846b44ed", func := "columbary/columbarylaw01.BlockPlays", spec := "blockPlays", apart := false, narrowed := true }
def BlockPlaysUptoSaid : Prop := blockPlaysUptoRow.holds Try.pinned (OpenSpec.upto blockPlaysSpec)

/-- 'columbarylaw01.BlockNil', WHERE WHAT IT READS IS OF BULK AT MOST 1048576: true; the input reads as it did. -/
def blockNilUptoRow : OpenClaim := { program := "ytlkglhgndfhjeaa", sum := "53f02a28886ade2c22a7c626fa9ffaae72846648487196ab3e3a4ade846b44ed", func := "columbary/columbarylaw01.BlockNil", spec := "blockNil", apart := false, narrowed := true }
def BlockNilUptoSaid : Prop := blockNilUptoRow.holds Try.pinned (OpenSpec.upto blockNilSpec)

/-- 'columbarylaw02.LedgerSums', WHERE WHAT IT READS IS OF BULK AT MOST 1048576: true; the input reads as it did. -/
def ledgerSumsUptoRow : OpenClaim := { program := "ytlkglhgndfhjeaa", sum := "53f02a28886ade2c22a7c626fa9ffaae72846648487196ab3e3a4ade846b44ed", func := "columbary/columbarylaw02.LedgerSums", spec := "ledgerSums", apart := false, narrowed := true }
def LedgerSumsUptoSaid : Prop := ledgerSumsUptoRow.holds Try.pinned (OpenSpec.upto ledgerSumsSpec)

/-- 'columbarylaw02.LedgerApart', WHERE WHAT IT READS IS OF BULK AT MOST 1048576: true; the input reads as it did. -/
def ledgerApartUptoRow : OpenClaim := { program := "ytlkglhgndfhjeaa", sum := "53f02a28886ade2c22a7c626fa9ffaae72846648487196ab3e3a4ade846b44ed", func := "columbary/columbarylaw02.LedgerApart", spec := "ledgerApart", apart := false, narrowed := true }
def LedgerApartUptoSaid : Prop := ledgerApartUptoRow.holds Try.pinned (OpenSpec.upto ledgerApartSpec)

/-- 'columbarylaw02.LedgerRoom', WHERE WHAT IT READS IS OF BULK AT MOST 1048576: true; the input reads as it did. -/
def ledgerRoomUptoRow : OpenClaim := { program := "ytlkglhgndfhjeaa", sum := "53f02a28886ade2c22a7c626fa9ffaae72846648487196ab3e3a4ade846b44ed", func := "columbary/columbarylaw02.LedgerRoom", spec := "ledgerRoom", apart := false, narrowed := true }
def LedgerRoomUptoSaid : Prop := ledgerRoomUptoRow.holds Try.pinned (OpenSpec.upto ledgerRoomSpec)

/-- 'columbarylaw02.LedgerKeeps', WHERE WHAT IT READS IS OF BULK AT MOST 1048576: true; the input reads as it did. -/
def ledgerKeepsUptoRow : OpenClaim := { program := "ytlkglhgndfhjeaa", sum := "53f02a28886ade2c22a7c626fa9ffaae72846648487196ab3e3a4ade846b44ed", func := "columbary/columbarylaw02.LedgerKeeps", spec := "ledgerKeeps", apart := false, narrowed := true }
def LedgerKeepsUptoSaid : Prop := ledgerKeepsUptoRow.holds Try.pinned (OpenSpec.upto ledgerKeepsSpec)

/-- 'columbarylaw02.LedgerErrs', WHERE WHAT IT READS IS OF BULK AT MOST 1048576: true; the input reads as it did. -/
def ledgerErrsUptoRow : OpenClaim := { program := "ytlkglhgndfhjeaa", sum := "53f02a28886ade2c22a7c626fa9ffaae72846648487196ab3e3a4ade846b44ed", func := "columbary/columbarylaw02.LedgerErrs", spec := "ledgerErrs", apart := false, narrowed := true }
def LedgerErrsUptoSaid : Prop := ledgerErrsUptoRow.holds Try.pinned (OpenSpec.upto ledgerErrsSpec)

/-- 'columbarylaw02.LedgerPlays', WHERE WHAT IT READS IS OF BULK AT MOST 1048576: true; the input reads as it did. -/
def ledgerPlaysUptoRow : OpenClaim := { program := "ytlkglhgndfhjeaa", sum := "53f02a28886ade2c22a7c626fa9ffaae72846648487196ab3e3a4ade846b44ed", func := "columbary/columbarylaw02.LedgerPlays", spec := "ledgerPlays", apart := false, narrowed := true }
def LedgerPlaysUptoSaid : Prop := ledgerPlaysUptoRow.holds Try.pinned (OpenSpec.upto ledgerPlaysSpec)

end Rows
end Go.Proofs.Ytlkglhgndfhjeaa
