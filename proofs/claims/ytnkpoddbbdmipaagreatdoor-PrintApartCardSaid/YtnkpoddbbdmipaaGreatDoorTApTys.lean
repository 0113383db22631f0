/- . -/
import Derived.Test.YtnkpoddbbdmipaaGreatDoorRows
import Derived.Test.YtnkpoddbbdmipaaGreatDoorTApKiB
import Derived.Deep.Slices
import Derived.ChangeArms
import Derived.ProofKit
import Derived.DataReads
import Derived.ChangeOld
import Derived.Test.YtnkpoddbbdmipaaGreatDoorTApEnD
import Derived.SizedLaws
import Derived.Test.YtnkpoddbbdmipaaGreatDoorTApPrk
namespace Go.Proofs.YtnkpoddbbdmipaaGreatDoor
open Go Go.RowKit
set_option linter.unusedVariables false
set_option linter.unusedSimpArgs false
inductive TT where
 | mk (s : List UInt8) (of : List TT) (b : Bool)
section
variable {H : Type} {enc : TypeId × Value → H}
end
theorem tr_cells_nm {w : World} {G : Nat → Prop} {s : List UInt8} {b : Bool} {cs : List Value} (h : CellsAt w G (trC (.nm s b)) cs) : ∃ a c, cs = [.string ⟨s.toArray⟩, .slice a 0 c, .bool b] := by
 rcases tr_cells h with rfl | ⟨a, c, rfl⟩
 ·exact ⟨_, _, rfl⟩
 ·exact ⟨_, _, rfl⟩
def trSame : TR → TR → Bool
 | .nm s b, .nm s' b' => decide (s = s') && decide (b = b')
 | .ls t b, .ls t' b' => trSame t t' && decide (b = b')
 | _, _ => false
theorem trSame_iff : ∀ (t u : TR), trSame t u = true ↔ t = u
 | .nm s b, .nm s' b' => by simp [trSame]
 | .ls t b, .ls t' b' => by
  simp only [trSame, Bool.and_eq_true, decide_eq_true_eq, trSame_iff t t']
  constructor
  ·rintro ⟨rfl, rfl⟩; rfl
  ·intro h; injection h with h1 h2; exact ⟨h1, h2⟩
 | .nm _ _, .ls _ _ => by simp [trSame]
 | .ls _ _, .nm _ _ => by simp [trSame]
def trN : TR → List UInt8
 | .nm s _ => s
 | .ls _ _ => []
def trB : TR → Bool
 | .nm _ b => b
 | .ls _ b => b
def trL : TR → Nat
 | .nm _ _ => 0
 | .ls _ _ => 1
theorem tr_any {w : World} {G : Nat → Prop} : ∀ {t : TR} {cs : List Value}, CellsAt w G (trC t) cs → ∃ a c, cs = [.string ⟨(trN t).toArray⟩, .slice a (trL t) c, .bool (trB t)]
 | .nm s b, cs, h => tr_cells_nm h
 | .ls t b, cs, h => by
  obtain ⟨v, rfl, hv⟩ := tr_ls_cells h; have hv : CellAt w G (.row 3 ([t].map trC)) v := hv; obtain ⟨a, c, rfl, -, -, -⟩ := rows_at hv; exact ⟨a, c, rfl⟩
theorem trSame_no {t u : TR} (h : trN t ≠ trN u ∨ trB t ≠ trB u ∨ trL t ≠ trL u) : trSame t u = false := by
 cases hq : trSame t u with
 | false => rfl
 | true =>
  have := (trSame_iff t u).1 hq; subst this
  rcases h with h | h | h <;> exact absurd rfl h
end Go.Proofs.YtnkpoddbbdmipaaGreatDoor
