/- . -/
import Derived.Test.YtnkpoddbbdmipaaGreatDoorTTyEnD
import Derived.Test.YtnkpoddbbdmipaaGreatDoorTTyPnt
namespace Go.Proofs.YtnkpoddbbdmipaaGreatDoor
open Go Go.RowKit
set_option linter.unusedVariables false
set_option linter.unusedSimpArgs false
def inC (i : IN) : List Cell := strC i.name :: .row 11 [] :: (trC i.t ++ boolC i.has :: valC i.v)
def fdC (f : FD) : List Cell := strC f.name :: .row 11 (f.args.map inC) :: (trC f.t ++ boolC f.has :: valC f.v)
def tdC (t : TD) : List Cell := [intC .u8 t.kind, strC t.name, .row 11 (t.fields.map fdC), .row 1 (t.names.map fun s => [strC s])]
theorem boxN11 {w : World} {b : Nat} {x0 x1 x2 x3 x4 x5 x6 x7 x8 x9 x10 : Value} {T : TypeId} (h : w.heap[b]? = some (.cells #[x0, x1, x2, x3, x4, x5, x6, x7, x8, x9, x10] T (0, 0))) :
  w.cell? ⟨b, 0, none⟩ = some x0 ∧ w.cell? ⟨b, 1, none⟩ = some x1 ∧ w.cell? ⟨b, 2, none⟩ = some x2 ∧ w.cell? ⟨b, 3, none⟩ = some x3 ∧ w.cell? ⟨b, 4, none⟩ = some x4 ∧ w.cell? ⟨b, 5, none⟩ = some x5 ∧ w.cell? ⟨b, 6, none⟩ = some x6 ∧ w.cell? ⟨b, 7, none⟩ = some x7 ∧ w.cell? ⟨b, 8, none⟩ = some x8 ∧ w.cell? ⟨b, 9, none⟩ = some x9 ∧ w.cell? ⟨b, 10, none⟩ = some x10 ∧ ∀ o, w.frozen? ⟨b, o, none⟩ = false := by
 refine ⟨?_, ?_, ?_, ?_, ?_, ?_, ?_, ?_, ?_, ?_, ?_, fun o => ?_⟩ <;> simp [World.cell?, World.frozen?, h]
theorem fd_cells {w : World} {G : Nat → Prop} {o : FD} {vs : List Value} (h : CellsAt w G (fdC o) vs) : ∃ gv ts us, vs = .string ⟨o.name.toArray⟩ :: gv :: (ts ++ .bool o.has :: us) ∧ CellAt w G (.row 11 (o.args.map inC)) gv ∧ CellsAt w G (trC o.t) ts ∧ CellsAt w G (valC o.v) us := by
 obtain ⟨v, us, rfl, h1, h⟩ := cells_cons h; obtain ⟨gv, us, rfl, hg, h⟩ := cells_cons h; obtain ⟨ts, us, rfl, h2, h⟩ := CellsAt.split h; obtain ⟨v3, us, rfl, h3, h4⟩ := cells_cons h; have e1 := lit_eq h1; have e3 := lit_eq h3; subst e1; subst e3; exact ⟨_, _, _, rfl, hg, h2, h4⟩
theorem td_cells {w : World} {G : Nat → Prop} {o : TD} {vs : List Value} (h : CellsAt w G (tdC o) vs) : ∃ fv nv, vs = [.int .u8 (o.kind : Int), .string ⟨o.name.toArray⟩, fv, nv] ∧ CellAt w G (.row 11 (o.fields.map fdC)) fv ∧ CellAt w G (.row 1 (o.names.map fun s => [strC s])) nv := by
 obtain ⟨v1, us, rfl, h1, h⟩ := cells_cons h; obtain ⟨v2, us, rfl, h2, h⟩ := cells_cons h; obtain ⟨v3, us, rfl, h3, h⟩ := cells_cons h; obtain ⟨v4, us, rfl, h4, h⟩ := cells_cons h; have := cells_nil h; subst this; have e1 := lit_eq h1; have e2 := lit_eq h2; subst e1; subst e2; exact ⟨_, _, rfl, h3, h4⟩
end Go.Proofs.YtnkpoddbbdmipaaGreatDoor
