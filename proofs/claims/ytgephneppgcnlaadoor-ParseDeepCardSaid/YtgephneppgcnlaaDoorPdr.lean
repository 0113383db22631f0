/- Documents in memory, read: what the walk is told of a slice of structs, and of each struct. -/
import Derived.Test.YtgephneppgcnlaaDoorEnc
namespace Go.Proofs.YtgephneppgcnlaaDoor
open Go Go.RowKit
set_option linter.unusedVariables false
set_option linter.unusedSimpArgs false

/-- The i-th struct of a slice of structs. -/
theorem row_at {w : World} {G : Nat → Prop} {n : Nat} {rs : List (List Cell)} {v : Value} (h : CellAt w G (.row n rs) v) (i : Nat) (hi : i < rs.length) : ∃ b off c vs, v = .slice (some ⟨b, off, none⟩) rs.length c ∧ rs.length ≤ c ∧ c ≤ 9223372036854775807 ∧ vs.length = n ∧ (∀ j u, vs[j]? = some u → w.cell? ⟨b, off + i * n + j, none⟩ = some u) ∧ CellsAt w G rs[i] vs := by
  obtain ⟨a, c, rfl, h1, h2, h3⟩ := h.rows
  obtain ⟨b, off, vs, rfl, -, -, k1, k2, k3⟩ := h3 i hi
  exact ⟨b, off, c, vs, rfl, h1, h2, k1, fun j u hu => k2 j u hu, k3⟩
theorem op_cells {w : World} {G : Nat → Prop} {o : OP} {vs : List Value} (h : CellsAt w G (opC o) vs) : ∃ vv sv, vs = [.bool o.mut_, .string ⟨o.name.toArray⟩, vv, sv] ∧ CellAt w G (.row 10 (o.vars.map vdC)) vv ∧ CellAt w G (.row 7 (o.sub.map selC)) sv := by
  obtain ⟨v1, us, rfl, h1, h⟩ := cells_cons h
  obtain ⟨v2, us, rfl, h2, h⟩ := cells_cons h
  obtain ⟨v3, us, rfl, h3, h⟩ := cells_cons h
  obtain ⟨v4, us, rfl, h4, h⟩ := cells_cons h
  have := cells_nil h; subst this
  have e1 := lit_eq h1; have e2 := lit_eq h2
  subst e1; subst e2
  exact ⟨_, _, rfl, h3, h4⟩
theorem fr_cells {w : World} {G : Nat → Prop} {o : FR} {vs : List Value} (h : CellsAt w G (frC o) vs) : ∃ sv, vs = [.string ⟨o.name.toArray⟩, .string ⟨o.on_.toArray⟩, sv] ∧ CellAt w G (.row 7 (o.sub.map selC)) sv := by
  obtain ⟨v1, us, rfl, h1, h⟩ := cells_cons h
  obtain ⟨v2, us, rfl, h2, h⟩ := cells_cons h
  obtain ⟨v3, us, rfl, h3, h⟩ := cells_cons h
  have := cells_nil h; subst this
  have e1 := lit_eq h1; have e2 := lit_eq h2
  subst e1; subst e2
  exact ⟨_, rfl, h3⟩
theorem sel_cells {w : World} {G : Nat → Prop} {k : Nat} {al name on_ : List UInt8} {gs : List AR} {ds : List DR} {sub : List SL} {vs : List Value} (h : CellsAt w G (selC (.mk k al name on_ gs ds sub)) vs) : ∃ gv dv sv, vs = [.int .u8 (k : Int), .string ⟨al.toArray⟩, .string ⟨name.toArray⟩, .string ⟨on_.toArray⟩, gv, dv, sv] ∧ CellAt w G (.row 6 (gs.map argC)) gv ∧ CellAt w G (.row 2 (ds.map dirC)) dv ∧ CellAt w G (.row 7 (sub.map selC)) sv := by
  rw [selC] at h
  obtain ⟨v1, us, rfl, h1, h⟩ := cells_cons h
  obtain ⟨v2, us, rfl, h2, h⟩ := cells_cons h
  obtain ⟨v3, us, rfl, h3, h⟩ := cells_cons h
  obtain ⟨v4, us, rfl, h4, h⟩ := cells_cons h
  obtain ⟨v5, us, rfl, h5, h⟩ := cells_cons h
  obtain ⟨v6, us, rfl, h6, h⟩ := cells_cons h
  obtain ⟨v7, us, rfl, h7, h⟩ := cells_cons h
  have := cells_nil h; subst this
  have e1 := lit_eq h1; have e2 := lit_eq h2; have e3 := lit_eq h3; have e4 := lit_eq h4
  subst e1; subst e2; subst e3; subst e4
  rw [selCs_map] at h7
  exact ⟨_, _, _, rfl, h5, h6, h7⟩
theorem vd_cells {w : World} {G : Nat → Prop} {o : VD} {vs : List Value} (h : CellsAt w G (vdC o) vs) : ∃ ts us, vs = .string ⟨o.name.toArray⟩ :: (ts ++ .bool o.has :: us) ∧ CellsAt w G (trC o.t) ts ∧ CellsAt w G (valC o.v) us := by
  obtain ⟨v, us, rfl, h1, h⟩ := cells_cons h
  obtain ⟨ts, us, rfl, h2, h⟩ := CellsAt.split h
  obtain ⟨v3, us, rfl, h3, h4⟩ := cells_cons h
  have e1 := lit_eq h1; have e3 := lit_eq h3
  subst e1; subst e3
  exact ⟨_, _, rfl, h2, h4⟩
theorem arg_cells {w : World} {G : Nat → Prop} {o : AR} {vs : List Value} (h : CellsAt w G (argC o) vs) : ∃ us, vs = .string ⟨o.name.toArray⟩ :: us ∧ CellsAt w G (valC o.v) us := by
  obtain ⟨v, us, rfl, h1, h2⟩ := cells_cons h
  have e1 := lit_eq h1
  subst e1
  exact ⟨us, rfl, h2⟩
theorem dir_cells {w : World} {G : Nat → Prop} {o : DR} {vs : List Value} (h : CellsAt w G (dirC o) vs) : ∃ gv, vs = [.string ⟨o.name.toArray⟩, gv] ∧ CellAt w G (.row 6 (o.args.map argC)) gv := by
  obtain ⟨v, us, rfl, h1, h⟩ := cells_cons h
  obtain ⟨v2, us, rfl, h2, h⟩ := cells_cons h
  have := cells_nil h; subst this
  have e1 := lit_eq h1
  subst e1
  exact ⟨_, rfl, h2⟩
theorem tr_cells {w : World} {G : Nat → Prop} {s : List UInt8} {b : Bool} {vs : List Value} (h : CellsAt w G (trC (.nm s b)) vs) : vs = [.string ⟨s.toArray⟩, .slice none 0 0, .bool b] ∨ ∃ a c, vs = [.string ⟨s.toArray⟩, .slice a 0 c, .bool b] := by
  rw [trC] at h
  obtain ⟨x, y, z, rfl, h1, h2, h3⟩ := cells3 h
  have e1 := lit_eq h1; have e3 := lit_eq h3
  obtain ⟨a, c, e2⟩ := row_form h2
  subst e1; subst e2; subst e3
  exact .inr ⟨a, c, rfl⟩
theorem tr_ls_cells {w : World} {G : Nat → Prop} {t : TR} {b : Bool} {vs : List Value} (h : CellsAt w G (trC (.ls t b)) vs) : ∃ v, vs = [.string ⟨#[]⟩, v, .bool b] ∧ CellAt w G (.row 3 [trC t]) v := by
  rw [trC] at h
  obtain ⟨x, y, z, rfl, h1, h2, h3⟩ := cells3 h
  have e1 := lit_eq h1; have e3 := lit_eq h3
  subst e1; subst e3
  exact ⟨_, rfl, h2⟩
theorem val_cells {w : World} {G : Nat → Prop} {k : Nat} {n : Int} {s : List UInt8} {ks : List (List UInt8)} {vs : List VT} {cs : List Value} (h : CellsAt w G (valC (.mk k n s ks vs)) cs) : ∃ kv lv, cs = [.int .u8 (k : Int), .int .i64 n, .string ⟨s.toArray⟩, kv, lv] ∧ CellAt w G (.row 1 (ks.map fun k => [strC k])) kv ∧ CellAt w G (.row 5 (vs.map valC)) lv := by
  rw [valC, valCs_map] at h
  obtain ⟨x, y, z, u, v, rfl, h1, h2, h3, h4, h5⟩ := cells5 h
  have e1 := lit_eq h1; have e2 := lit_eq h2; have e3 := lit_eq h3
  subst e1; subst e2; subst e3
  exact ⟨_, _, rfl, h4, h5⟩
end Go.Proofs.YtgephneppgcnlaaDoor
