/- The forms of declarations in memory. -/
import Derived.Test.YtgephneppgcnlaaDoorSdM
namespace Go.Proofs.YtgephneppgcnlaaDoor
open Go Go.RowKit
set_option linter.unusedVariables false
set_option linter.unusedSimpArgs false

theorem in_cells {w : World} {G : Nat → Prop} {o : IN} {vs : List Value} (h : CellsAt w G (inC o) vs) : ∃ gv ts us, vs = .string ⟨o.name.toArray⟩ :: gv :: (ts ++ .bool o.has :: us) ∧ CellAt w G (.row 11 []) gv ∧ CellsAt w G (trC o.t) ts ∧ CellsAt w G (valC o.v) us := by
  obtain ⟨v, us, rfl, h1, h⟩ := cells_cons h
  obtain ⟨gv, us, rfl, hg, h⟩ := cells_cons h
  obtain ⟨ts, us, rfl, h2, h⟩ := CellsAt.split h
  obtain ⟨v3, us, rfl, h3, h4⟩ := cells_cons h
  have e1 := lit_eq h1; have e3 := lit_eq h3
  subst e1; subst e3
  exact ⟨_, _, _, rfl, hg, h2, h4⟩
theorem fd_cells {w : World} {G : Nat → Prop} {o : FD} {vs : List Value} (h : CellsAt w G (fdC o) vs) : ∃ gv ts us, vs = .string ⟨o.name.toArray⟩ :: gv :: (ts ++ .bool o.has :: us) ∧ CellAt w G (.row 11 (o.args.map inC)) gv ∧ CellsAt w G (trC o.t) ts ∧ CellsAt w G (valC o.v) us := by
  obtain ⟨v, us, rfl, h1, h⟩ := cells_cons h
  obtain ⟨gv, us, rfl, hg, h⟩ := cells_cons h
  obtain ⟨ts, us, rfl, h2, h⟩ := CellsAt.split h
  obtain ⟨v3, us, rfl, h3, h4⟩ := cells_cons h
  have e1 := lit_eq h1; have e3 := lit_eq h3
  subst e1; subst e3
  exact ⟨_, _, _, rfl, hg, h2, h4⟩
theorem td_cells {w : World} {G : Nat → Prop} {o : TD} {vs : List Value} (h : CellsAt w G (tdC o) vs) : ∃ fv nv, vs = [.int .u8 (o.kind : Int), .string ⟨o.name.toArray⟩, fv, nv] ∧ CellAt w G (.row 11 (o.fields.map fdC)) fv ∧ CellAt w G (.row 1 (o.names.map fun s => [strC s])) nv := by
  obtain ⟨v1, us, rfl, h1, h⟩ := cells_cons h
  obtain ⟨v2, us, rfl, h2, h⟩ := cells_cons h
  obtain ⟨v3, us, rfl, h3, h⟩ := cells_cons h
  obtain ⟨v4, us, rfl, h4, h⟩ := cells_cons h
  have := cells_nil h; subst this
  have e1 := lit_eq h1; have e2 := lit_eq h2
  subst e1; subst e2
  exact ⟨_, _, rfl, h3, h4⟩
end Go.Proofs.YtgephneppgcnlaaDoor
