/-
  No cell of these rows narrows 'for every input' (looked for: loops, veiled, ifaces, maps, wideKeys, modest, calm, conditions, laid).
  DERIVED. THE GIVEN ROWS OF THIS SEAT. 8 by the template 'for every input the law returns true; each argument reads behind the call as it read before'; 0 by the template 'total and deterministic' (their statements: YtalikihdckknoaaTotals.lean).
  GIVEN WITH THE SEED: the statements are not yours to turn. If you find one false, say at which input.
  Laid BY PROGRAM, IN A SANDBOX (cutbox-rows.mjs): the forced cells as the released guide's own fill.sh prints them over the translation 3c7d1d8a976fd9f8… (all of the seat's roots in one cut). By AI agents, Wed Nov 11 2026. No macro, syntax, notation, axiom, sorry.
-/
import Derived.Test.YtalikihdckknoaaChecked
import GoSem.Claim
import GoSem.ClaimJoined
import GoSem.ClaimMapViews
import Derived.JoinedTies
import Derived.KernelRfl
namespace Go.Proofs.Ytalikihdckknoaa
/- THE CELL 'sum', in the pinned program and in every row, IS THE sha256 OF THE DUMP (.gsa) THAT YtalikihdckknoaaProg.lean LOADS. Nothing in Lean hashes anything: it is a label: what it is worth is what the hold of that sum in a sandbox is worth. -/
noncomputable def Try.pinned : Pinned := { name := "ytalikihdckknoaa", sum := "3c7d1d8a976fd9f844f7e0ab8af9b1b547bad722c7f878d5493ea2c8d8c23098", checked := Try.checked }
namespace Rows
def none {H : Type} : Left H := { results := [], args := [] }

/-- 'columbarylaw17.LinkTimers': WHATEVER THE INPUT: true; the input reads as it did. -/
def linkTimersSpec : ChangeSpec := { name := "linkTimers", fn := fun _ => fun
  | [d1, d2, d3] => { results := [.lit (.bool true)], args := [d1, d2, d3] }
  | _ => none }
def linkTimersRow : OpenClaim := { program := "ytalikihdckknoaa", sum := "3c7d1d8a976fd9f844f7e0ab8af9b1b547bad722c7f878d5493ea2c8d8c23098", func := "columbary/columbarylaw17.LinkTimers", spec := "linkTimers", apart := false }
def LinkTimersSaid : Prop := linkTimersRow.holds Try.pinned (OpenSpec.ofChange linkTimersSpec)

/-- ITS FALSE NEIGHBOUR: 'it returns false'. Refute it at one input. -/
def linkTimersWrong : ChangeSpec := { name := "linkTimers", fn := fun _ => fun
  | [d1, d2, d3] => { results := [.lit (.bool false)], args := [d1, d2, d3] }
  | _ => none }
def LinkTimersWrongFalsely : Prop := linkTimersRow.holds Try.pinned (OpenSpec.ofChange linkTimersWrong)

/-- 'columbarylaw17.LinkWaits': WHATEVER THE INPUT: true; the input reads as it did. -/
def linkWaitsSpec : ChangeSpec := { name := "linkWaits", fn := fun _ => fun
  | [d1, d2, d3] => { results := [.lit (.bool true)], args := [d1, d2, d3] }
  | _ => none }
def linkWaitsRow : OpenClaim := { program := "ytalikihdckknoaa", sum := "3c7d1d8a976fd9f844f7e0ab8af9b1b547bad722c7f878d5493ea2c8d8c23098", func := "columbary/columbarylaw17.LinkWaits", spec := "linkWaits", apart := false }
def LinkWaitsSaid : Prop := linkWaitsRow.holds Try.pinned (OpenSpec.ofChange linkWaitsSpec)

/-- ITS FALSE NEIGHBOUR: 'it returns false'. Refute it at one input. -/
def linkWaitsWrong : ChangeSpec := { name := "linkWaits", fn := fun _ => fun
  | [d1, d2, d3] => { results := [.lit (.bool false)], args := [d1, d2, d3] }
  | _ => none }
def LinkWaitsWrongFalsely : Prop := linkWaitsRow.holds Try.pinned (OpenSpec.ofChange linkWaitsWrong)

/-- 'columbarylaw04.QueueTypes': WHATEVER THE INPUT: true; the input reads as it did. -/
def queueTypesSpec : ChangeSpec := { name := "queueTypes", fn := fun _ => fun
  | [d1, d2] => { results := [.lit (.bool true)], args := [d1, d2] }
  | _ => none }
def queueTypesRow : OpenClaim := { program := "ytalikihdckknoaa", sum := "3c7d1d8a976fd9f844f7e0ab8af9b1b547bad722c7f878d5493ea2c8d8c23098", func := "columbary/columbarylaw04.QueueTypes", spec := "queueTypes", apart := false }
def QueueTypesSaid : Prop := queueTypesRow.holds Try.pinned (OpenSpec.ofChange queueTypesSpec)

/-- ITS FALSE NEIGHBOUR: 'it returns false'. Refute it at one input. -/
def queueTypesWrong : ChangeSpec := { name := "queueTypes", fn := fun _ => fun
  | [d1, d2] => { results := [.lit (.bool false)], args := [d1, d2] }
  | _ => none }
def QueueTypesWrongFalsely : Prop := queueTypesRow.holds Try.pinned (OpenSpec.ofChange queueTypesWrong)

/-- 'columbarylaw04.QueueNumbers': WHATEVER THE INPUT: true; the input reads as it did. -/
def queueNumbersSpec : ChangeSpec := { name := "queueNumbers", fn := fun _ => fun
  | [d1, d2] => { results := [.lit (.bool true)], args := [d1, d2] }
  | _ => none }
def queueNumbersRow : OpenClaim := { program := "ytalikihdckknoaa", sum := "3c7d1d8a976fd9f844f7e0ab8af9b1b547bad722c7f878d5493ea2c8d8c23098", func := "columbary/columbarylaw04.QueueNumbers", spec := "queueNumbers", apart := false }
def QueueNumbersSaid : Prop := queueNumbersRow.holds Try.pinned (OpenSpec.ofChange queueNumbersSpec)

/-- ITS FALSE NEIGHBOUR: 'it returns false'. Refute it at one input. -/
def queueNumbersWrong : ChangeSpec := { name := "queueNumbers", fn := fun _ => fun
  | [d1, d2] => { results := [.lit (.bool false)], args := [d1, d2] }
  | _ => none }
def QueueNumbersWrongFalsely : Prop := queueNumbersRow.holds Try.pinned (OpenSpec.ofChange queueNumbersWrong)

/-- 'columbarylaw04.QueueFull': WHATEVER THE INPUT: true; the input reads as it did. -/
def queueFullSpec : ChangeSpec := { name := "queueFull", fn := fun _ => fun
  | [d1, d2] => { results := [.lit (.bool true)], args := [d1, d2] }
  | _ => none }
def queueFullRow : OpenClaim := { program := "ytalikihdckknoaa", sum := "3c7d1d8a976fd9f844f7e0ab8af9b1b547bad722c7f878d5493ea2c8d8c23098", func := "columbary/columbarylaw04.QueueFull", spec := "queueFull", apart := false }
def QueueFullSaid : Prop := queueFullRow.holds Try.pinned (OpenSpec.ofChange queueFullSpec)

/-- ITS FALSE NEIGHBOUR: 'it returns false'. Refute it at one input. -/
def queueFullWrong : ChangeSpec := { name := "queueFull", fn := fun _ => fun
  | [d1, d2] => { results := [.lit (.bool false)], args := [d1, d2] }
  | _ => none }
def QueueFullWrongFalsely : Prop := queueFullRow.holds Try.pinned (OpenSpec.ofChange queueFullWrong)

/-- 'columbarylaw04.QueuePlays': WHATEVER THE INPUT: true; the input reads as it did. -/
def queuePlaysSpec : ChangeSpec := { name := "queuePlays", fn := fun _ => fun
  | [d1, d2, d3] => { results := [.lit (.bool true)], args := [d1, d2, d3] }
  | _ => none }
def queuePlaysRow : OpenClaim := { program := "ytalikihdckknoaa", sum := "3c7d1d8a976fd9f844f7e0ab8af9b1b547bad722c7f878d5493ea2c8d8c23098", func := "columbary/columbarylaw04.QueuePlays", spec := "queuePlays", apart := false }
def QueuePlaysSaid : Prop := queuePlaysRow.holds Try.pinned (OpenSpec.ofChange queuePlaysSpec)

/-- ITS FALSE NEIGHBOUR: 'it returns false'. Refute it at one input. -/
def queuePlaysWrong : ChangeSpec := { name := "queuePlays", fn := fun _ => fun
  | [d1, d2, d3] => { results := [.lit (.bool false)], args := [d1, d2, d3] }
  | _ => none }
def QueuePlaysWrongFalsely : Prop := queuePlaysRow.holds Try.pinned (OpenSpec.ofChange queuePlaysWrong)

/-- 'columbarylaw04.QueueLooks': WHATEVER THE INPUT: true; the input reads as it did. -/
def queueLooksSpec : ChangeSpec := { name := "queueLooks", fn := fun _ => fun
  | [d1, d2] => { results := [.lit (.bool true)], args := [d1, d2] }
  | _ => none }
def queueLooksRow : OpenClaim := { program := "ytalikihdckknoaa", sum := "3c7d1d8a976fd9f844f7e0ab8af9b1b547bad722c7f878d5493ea2c8d8c23098", func := "columbary/columbarylaw04.QueueLooks", spec := "queueLooks", apart := false }
def QueueLooksSaid : Prop := queueLooksRow.holds Try.pinned (OpenSpec.ofChange queueLooksSpec)

/-- ITS FALSE NEIGHBOUR: 'it returns false'. Refute it at one input. -/
def queueLooksWrong : ChangeSpec := { name := "queueLooks", fn := fun _ => fun
  | [d1, d2] => { results := [.lit (.bool false)], args := [d1, d2] }
  | _ => none }
def QueueLooksWrongFalsely : Prop := queueLooksRow.holds Try.pinned (OpenSpec.ofChange queueLooksWrong)

/-- 'columbarylaw04.QueueNil': WHATEVER THE INPUT: true; the input reads as it did. -/
def queueNilSpec : ChangeSpec := { name := "queueNil", fn := fun _ => fun
  | [d] => { results := [.lit (.bool true)], args := [d] }
  | _ => none }
def queueNilRow : OpenClaim := { program := "ytalikihdckknoaa", sum := "3c7d1d8a976fd9f844f7e0ab8af9b1b547bad722c7f878d5493ea2c8d8c23098", func := "columbary/columbarylaw04.QueueNil", spec := "queueNil", apart := false }
def QueueNilSaid : Prop := queueNilRow.holds Try.pinned (OpenSpec.ofChange queueNilSpec)

/-- ITS FALSE NEIGHBOUR: 'it returns false'. Refute it at one input. -/
def queueNilWrong : ChangeSpec := { name := "queueNil", fn := fun _ => fun
  | [d] => { results := [.lit (.bool false)], args := [d] }
  | _ => none }
def QueueNilWrongFalsely : Prop := queueNilRow.holds Try.pinned (OpenSpec.ofChange queueNilWrong)

/- THE SECOND FORM. 'bulk': how many values and letters a reading holds, each counted each time it is reached (what is shared counts as often as it is met; a slice's spare places count too). A statement '..UptoSaid' is the law's where the arguments, and the package variables that the reading takes, are together of bulk at most 1048576: NARROWER than '..Said'. Prove '..Said' where nothing that the law and all that it calls make is longer than what came in: it says more and counts as full. Else prove '..UptoSaid'. A law counts once. -/
mutual
def uptoBulk {H : Type} : DataW H → Nat
  | .lit (.string bytes) => bytes.length + 1
  | .lit _ => 1
  | .nil => 1
  | .ptr d => uptoBulk d + 1
  | .slice elems spare => uptoBulkAll elems + uptoBulkAll spare + 1
  | .agg parts => uptoBulkAll parts + 1
  | .iface _ d => uptoBulk d + 1
  | .map entries => uptoBulkEntries entries + 1
  | .held _ => 1
def uptoBulkAll {H : Type} : List (DataW H) → Nat
  | [] => 0
  | d :: r => uptoBulk d + uptoBulkAll r
def uptoBulkEntries {H : Type} : List (Lit × DataW H) → Nat
  | [] => 0
  | x :: r => uptoBulkEntry x + uptoBulkEntries r
def uptoBulkEntry {H : Type} : Lit × DataW H → Nat
  | (.string bytes, d) => bytes.length + uptoBulk d + 1
  | (_, d) => uptoBulk d + 1
 end
def uptoSmall : (H : Type) → List (DataW H) → Bool := fun _ ds => decide (uptoBulkAll ds ≤ 1048576)
def OpenSpec.upto (s : _root_.Go.ChangeSpec) : _root_.Go.OpenSpec := { _root_.Go.OpenSpec.ofChange s with cond := some uptoSmall }

/-- 'columbarylaw17.LinkTimers', WHERE WHAT IT READS IS OF BULK AT MOST 1048576: true; the input reads as it did. -/
def linkTimersUptoRow : OpenClaim := { program := "ytalikihdckknoaa", sum := "3c7d1d8a976fd9f844f7e0ab8af9b1b547bad722c7f878d5493ea2c8d8c23098", func := "columbary/columbarylaw17.LinkTimers", spec := "linkTimers", apart := false, narrowed := true }
def LinkTimersUptoSaid : Prop := linkTimersUptoRow.holds Try.pinned (OpenSpec.upto linkTimersSpec)

/-- 'columbarylaw17.LinkWaits', WHERE WHAT IT READS IS OF BULK AT MOST 1048576: true; the input reads as it did. -/
def linkWaitsUptoRow : OpenClaim := { program := "ytalikihdckknoaa", sum := "3c7d1d8a976fd9f844f7e0ab8af9b1b547bad722c7f878d5493ea2c8d8c23098", func := "columbary/columbarylaw17.LinkWaits", spec := "linkWaits", apart := false, narrowed := true }
def LinkWaitsUptoSaid : Prop := linkWaitsUptoRow.holds Try.pinned (OpenSpec.upto linkWaitsSpec)

/-- 'columbarylaw04.QueueTypes', WHERE WHAT IT READS IS OF BULK AT MOST 1048576: true; the input reads as it did. -/
def queueTypesUptoRow : OpenClaim := { program := "ytalikihdckknoaa", sum := "3c7d1d8a976fd9f844f7e0ab8af9b1b547bad722c7f878d5493ea2c8d8c23098", func := "columbary/columbarylaw04.QueueTypes", spec := "queueTypes", apart := false, narrowed := true }
def QueueTypesUptoSaid : Prop := queueTypesUptoRow.holds Try.pinned (OpenSpec.upto queueTypesSpec)

/-- 'columbarylaw04.QueueNumbers', WHERE WHAT IT READS IS OF BULK AT MOST 1048576: true; the input reads as it did. -/
def queueNumbersUptoRow : OpenClaim := { program := "ytalikihdckknoaa", sum := "3c7d1d8a976fd9f844f7e0ab8af9b1b547bad722c7f878d5493ea2c8d8c23098", func := "columbary/columbarylaw04.QueueNumbers", spec := "queueNumbers", apart := false, narrowed := true }
def QueueNumbersUptoSaid : Prop := queueNumbersUptoRow.holds Try.pinned (OpenSpec.upto queueNumbersSpec)

/-- 'columbarylaw04.QueueFull', WHERE WHAT IT READS IS OF BULK AT MOST 1048576: true; the input reads as it did. -/
def queueFullUptoRow : OpenClaim := { program := "ytalikihdckknoaa", sum := "3c7d1d8a976fd9f844f7e0ab8af9b1b547bad722c7f878d5493ea2c8d8c23098", func := "columbary/columbarylaw04.QueueFull", spec := "queueFull", apart := false, narrowed := true }
def QueueFullUptoSaid : Prop := queueFullUptoRow.holds Try.pinned (OpenSpec.upto queueFullSpec)

/-- 'columbarylaw04.QueuePlays', WHERE WHAT IT READS IS OF BULK AT MOST 1048576: true; the input reads as it did. -/
def queuePlaysUptoRow : OpenClaim := { program := "ytalikihdckknoaa", sum := "3c7d1d8a976fd9f844f7e0ab8af9b1b547bad722c7f878d5493ea2c8d8c23098", func := "columbary/columbarylaw04.QueuePlays", spec := "queuePlays", apart := false, narrowed := true }
def QueuePlaysUptoSaid : Prop := queuePlaysUptoRow.holds Try.pinned (OpenSpec.upto queuePlaysSpec)

/-- 'columbarylaw04.QueueLooks', WHERE WHAT IT READS IS OF BULK AT MOST 1048576: true; the input reads as it did. -/
def queueLooksUptoRow : OpenClaim := { program := "ytalikihdckknoaa", sum := "3c7d1d8a976fd9f844f7e0ab8af9b1b547bad722c7f878d5493ea2c8d8c23098", func := "columbary/columbarylaw04.QueueLooks", spec := "queueLooks", apart := false, narrowed := true }
def QueueLooksUptoSaid : Prop := queueLooksUptoRow.holds Try.pinned (OpenSpec.upto queueLooksSpec)

/-- 'columbarylaw04.QueueNil', WHERE WHAT IT READS IS OF BULK AT MOST 1048576: true; the input reads as it did. -/
def queueNilUptoRow : OpenClaim := { program := "ytalikihdckknoaa", sum := "3c7d1d8a976fd9f844f7e0ab8af9b1b547bad722c7f878d5493ea2c8d8c23098", func := "columbary/columbarylaw04.QueueNil", spec := "queueNil", apart := false, narrowed := true }
def QueueNilUptoSaid : Prop := queueNilUptoRow.holds Try.pinned (OpenSpec.upto queueNilSpec)

end Rows
end Go.Proofs.Ytalikihdckknoaa
