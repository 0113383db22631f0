/- parse.reader.value: its answer in memory; what the walk wants. -/
import Derived.Test.YtgephneppgcnlaaGreatDoorPty
import Derived.Test.YtgephneppgcnlaaGreatDoorRgA
import Derived.Test.YtgephneppgcnlaaGreatDoorPrA
import Derived.Test.YtgephneppgcnlaaGreatDoorCtw
import Derived.RegionDies
namespace Go.Proofs.YtgephneppgcnlaaGreatDoor
open Go Go.RowKit
set_option linter.unusedVariables false
set_option linter.unusedSimpArgs false

theorem infoVal : (Tryz.prog.info? 37).map (fun i => (i.zero, i.size, i.bytes)) = some (some (.agg #[.int .u8 0, .int .i64 0, .string ByteArray.empty, .slice none 0 0, .slice none 0 0]), 5, 80) := by kernel_rfl
/-- Where the reader at b stands. -/
def posOf (w : World) (b : Nat) : Nat := match w.cell? ⟨b, 1, none⟩ with | some (.int _ i) => i.toNat | _ => 0
theorem RdP.pos {w : World} {b : Nat} {all r : List Tok} {dp : Int} (h : RdP w b all r dp) : posOf w b + r.length = all.length := by
  obtain ⟨g, off, c, i, h1, h2, h3, h4, h5⟩ := h.row
  have : w.cell? ⟨b, 1, none⟩ = some (.int .i64 (i : Int)) := by simp [World.cell?, h1]
  unfold posOf
  rw [this]
  simpa using h5
theorem infoStr : (Tryz.prog.info? 9).map (fun i => (i.zero, i.size, i.bytes)) = some (some (.string ByteArray.empty), 1, 16) := by kernel_rfl
/-- Ahead of a round of the object's loop. -/
def OInv (w : World) (Y B b : Nat) (all : List Tok) (dp : Int) (f : List Tok → PR VT) (r' : List Tok) (wr : World) : Prop :=
  ∃ (acc : List (List UInt8 × VT)) (rest : List Tok) (vK vL : Value), wr.heap[Y]? = some (.cells #[.int .u8 6, .int .i64 0, .string ⟨#[]⟩, vK, vL] 37 (0, 0)) ∧ OwnTwo wr (Y + 1) 9 37 1 5 vK vL (acc.map fun p => [strC p.1]) (acc.map fun p => valC p.2) ∧ RdP wr b all rest dp ∧
    wr.heap[B]? = some (.cells #[.int .u8 0, .int .i64 0, .string ⟨#[]⟩, .slice none 0 0, .slice none 0 0] 37 (0, 0)) ∧ Only (fun k => k = b) w wr ∧ acc.length + rest.length ≤ 1000000 ∧
    ∃ n, rest.length < n ∧ anyP (pairP f) [125] n acc rest = anyP (pairP f) [125] (r'.length + 1) [] r'
/-- Ahead of a round of the list's loop. -/
def LInv (w : World) (Y B b : Nat) (all : List Tok) (dp : Int) (f : List Tok → PR VT) (r' : List Tok) (wr : World) : Prop :=
  ∃ (acc : List VT) (rest : List Tok) (vL : Value), wr.heap[Y]? = some (.cells #[.int .u8 5, .int .i64 0, .string ⟨#[]⟩, .slice none 0 0, vL] 37 (0, 0)) ∧ OwnRow wr (Y + 1) 37 5 vL (acc.map valC) ∧ RdP wr b all rest dp ∧
    wr.heap[B]? = some (.cells #[.int .u8 0, .int .i64 0, .string ⟨#[]⟩, .slice none 0 0, .slice none 0 0] 37 (0, 0)) ∧ Only (fun k => k = b) w wr ∧ acc.length + rest.length ≤ 1000000 ∧
    ∃ n, rest.length < n ∧ anyP f [93] n acc rest = anyP f [93] (r'.length + 1) [] r'
end Go.Proofs.YtgephneppgcnlaaGreatDoor
