/- . -/
import Derived.Test.YtnkpoddbbdmipaaGreatDoorTApPnt
import Derived.Test.YtnkpoddbbdmipaaGreatDoorTApOwC
namespace Go.Proofs.YtnkpoddbbdmipaaGreatDoor
open Go Go.RowKit
set_option linter.unusedVariables false
set_option linter.unusedSimpArgs false
def strC (s : List UInt8) : Cell := .lit (.string ⟨s.toArray⟩)
def boolC (b : Bool) : Cell := .lit (.bool b)
def intC (k : IntKind) (n : Int) : Cell := .lit (.int k n)
def trC : TR → List Cell
 | .nm s b => [strC s, .row 3 [], boolC b]
 | .ls t b => [strC [], .row 3 [trC t], boolC b]
def aggP {α : Type} (B : Nat) (enc : α → List Cell) (w : World) (x : α) (v : Value) : Prop := ∃ cs, v = .agg cs.toArray ∧ CellsAt w (fun q => B ≤ q) (enc x) cs
theorem cells3 {w : World} {G : Nat → Prop} {a b c : Cell} {cs : List Value} (h : CellsAt w G [a, b, c] cs) : ∃ x y z, cs = [x, y, z] ∧ CellAt w G a x ∧ CellAt w G b y ∧ CellAt w G c z := by
 simp only [CellsAt] at h; obtain ⟨x, _, rfl, h1, y, _, rfl, h2, z, _, rfl, h3, rfl⟩ := h; exact ⟨x, y, z, rfl, h1, h2, h3⟩
mutual
def valC : VT → List Cell
 | .mk k n s ks vs => [intC .u8 k, intC .i64 n, strC s, .row 1 (ks.map fun s => [strC s]), .row 5 (valCs vs)]
def valCs : List VT → List (List Cell)
 | [] => []
 | v :: vs => valC v :: valCs vs
end
theorem valueB_cons (fixed : Bool) (f : List Tok → PR VT) (t : Tok) (r : List Tok) : valueB fixed f (t :: r) =
  if t.kind = 2 then .ok (.mk 1 t.n [] [] []) r
  else if t.kind = 3 then .ok (.mk 2 0 t.text [] []) r
  else if isT wTrue (t :: r) then .ok (.mk 3 1 [] [] []) r
  else if isT wFalse (t :: r) then .ok (.mk 3 0 [] [] []) r
  else if isT wNull (t :: r) then .ok VT.zero r
  else if t.kind = 1 then .ok (.mk 4 0 t.text [] []) r
  else if !fixed && isT [36] (t :: r) then (nameP r).bind fun s r1 => .ok (.mk 7 0 s [] []) r1
  else if isT [91] (t :: r) then (anyP f [93] (r.length + 1) [] r).bind fun vs r1 => .ok (.mk 5 0 [] [] vs) r1
  else if isT [123] (t :: r) then (anyP (pairP f) [125] (r.length + 1) [] r).bind fun ps r1 => .ok (.mk 6 0 [] (ps.map (·.1)) (ps.map (·.2))) r1
  else .bad t.at_ 4 := rfl
theorem valCs_map : ∀ vs, valCs vs = vs.map valC
 | [] => by rw [valCs]; rfl
 | v :: vs => by rw [valCs, valCs_map vs]; rfl
theorem cells5 {w : World} {G : Nat → Prop} {a b c d e : Cell} {cs : List Value} (h : CellsAt w G [a, b, c, d, e] cs) : ∃ x y z u v, cs = [x, y, z, u, v] ∧ CellAt w G a x ∧ CellAt w G b y ∧ CellAt w G c z ∧ CellAt w G d u ∧ CellAt w G e v := by
 simp only [CellsAt] at h; obtain ⟨x, _, rfl, h1, y, _, rfl, h2, z, _, rfl, h3, u, _, rfl, h4, v, _, rfl, h5, rfl⟩ := h; exact ⟨x, y, z, u, v, rfl, h1, h2, h3, h4, h5⟩
theorem valC_form2 {w : World} {G : Nat → Prop} {t : VT} {cs : List Value} (h : CellsAt w G (valC t) cs) : ∃ (k : Nat) (n : Int) (s : List UInt8) (a1 : Option Addr) (l1 e1 : Nat) (a2 : Option Addr) (l2 e2 : Nat), cs = [.int .u8 (k : Int), .int .i64 n, .string ⟨s.toArray⟩, .slice a1 l1 e1, .slice a2 l2 e2] := by
 cases t with
 | mk k n s ks vs =>
  rw [valC] at h; obtain ⟨x, y, z, u, v, rfl, h1, h2, h3, h4, h5⟩ := cells5 h; simp only [intC, strC, CellAt] at h1 h2 h3; obtain ⟨a1, e1, rfl, -⟩ := h4.rows; obtain ⟨a2, e2, rfl, -⟩ := h5.rows; obtain ⟨rfl, -⟩ := h1; obtain ⟨rfl, -⟩ := h2; obtain ⟨rfl, -⟩ := h3; exact ⟨k, n, s, a1, _, e1, a2, _, e2, rfl⟩
theorem leafC {w : World} {G : Nat → Prop} (k : Nat) (n : Int) (s : List UInt8) : CellsAt w G (valC (.mk k n s [] [])) [.int .u8 (k : Int), .int .i64 n, .string ⟨s.toArray⟩, .slice none 0 0, .slice none 0 0] := by
 rw [valC]; exact CellsAt.lit rfl (CellsAt.lit rfl (CellsAt.lit rfl (CellsAt.cons (CellAt.nilRow _ _ _) (CellsAt.cons (by rw [valCs]; exact CellAt.nilRow _ _ _) (CellsAt.nil _ _)))))
theorem listC {w : World} {G : Nat → Prop} {vs : List VT} {v : Value} (h : CellAt w G (.row 5 (vs.map valC)) v) : CellsAt w G (valC (.mk 5 0 [] [] vs)) [.int .u8 5, .int .i64 0, .string ⟨#[]⟩, .slice none 0 0, v] := by
 rw [valC]; exact CellsAt.lit rfl (CellsAt.lit rfl (CellsAt.lit rfl (CellsAt.cons (CellAt.nilRow _ _ _) (CellsAt.cons (by rw [valCs_map]; exact h) (CellsAt.nil _ _)))))
theorem objC {w : World} {G : Nat → Prop} {ps : List (List UInt8 × VT)} {u v : Value} (hk : CellAt w G (.row 1 (ps.map fun p => [strC p.1])) u) (h : CellAt w G (.row 5 (ps.map fun p => valC p.2)) v) : CellsAt w G (valC (.mk 6 0 [] (ps.map (·.1)) (ps.map (·.2)))) [.int .u8 6, .int .i64 0, .string ⟨#[]⟩, u, v] := by
 rw [valC]; exact CellsAt.lit rfl (CellsAt.lit rfl (CellsAt.lit rfl (CellsAt.cons (by rw [List.map_map]; exact hk) (CellsAt.cons (by rw [valCs_map, List.map_map]; exact h) (CellsAt.nil _ _)))))
def argC (a : AR) : List Cell := strC a.name :: valC a.v
def dirC (d : DR) : List Cell := [strC d.name, .row 6 (d.args.map argC)]
mutual
def selC : SL → List Cell
 | .mk k al name on_ gs ds sub => [intC .u8 k, strC al, strC name, strC on_, .row 6 (gs.map argC), .row 2 (ds.map dirC), .row 7 (selCs sub)]
def selCs : List SL → List (List Cell)
 | [] => []
 | s :: l => selC s :: selCs l
end
theorem selCs_map : ∀ l, selCs l = l.map selC
 | [] => by rw [selCs]; rfl
 | s :: l => by rw [selCs, selCs_map l]; rfl
def vdC (v : VD) : List Cell := strC v.name :: (trC v.t ++ boolC v.has :: valC v.v)
def opC (o : OP) : List Cell := [boolC o.mut_, strC o.name, .row 10 (o.vars.map vdC), .row 7 (o.sub.map selC)]
def frC (f : FR) : List Cell := [strC f.name, strC f.on_, .row 7 (f.sub.map selC)]
theorem cells_cons {w : World} {G : Nat → Prop} {c : Cell} {cs : List Cell} {vs : List Value} (h : CellsAt w G (c :: cs) vs) : ∃ v us, vs = v :: us ∧ CellAt w G c v ∧ CellsAt w G cs us := by
 simp only [CellsAt] at h; exact h
theorem cells_nil {w : World} {G : Nat → Prop} {vs : List Value} (h : CellsAt w G [] vs) : vs = [] := by
 simp only [CellsAt] at h; exact h
theorem lit_eq {w : World} {G : Nat → Prop} {u v : Value} (h : CellAt w G (.lit u) v) : v = u := by
 simp only [CellAt] at h; exact h.1
theorem row_form {w : World} {G : Nat → Prop} {n : Nat} {rs : List (List Cell)} {v : Value} (h : CellAt w G (.row n rs) v) : ∃ a c, v = .slice a rs.length c := by
 obtain ⟨a, c, e, -⟩ := h.rows; exact ⟨a, c, e⟩
theorem trC_form2 {w : World} {G : Nat → Prop} {t : TR} {cs : List Value} (h : CellsAt w G (trC t) cs) : ∃ (s : List UInt8) (a : Option Addr) (l c : Nat) (bb : Bool), cs = [.string ⟨s.toArray⟩, .slice a l c, .bool bb] := by
 cases t with
 | nm s b =>
  rw [trC] at h; obtain ⟨x, y, z, rfl, h1, h2, h3⟩ := cells3 h; have e1 := lit_eq h1; have e3 := lit_eq h3; obtain ⟨a, c, e2⟩ := row_form h2; subst e1; subst e2; subst e3; exact ⟨_, _, _, _, _, rfl⟩
 | ls t b =>
  rw [trC] at h; obtain ⟨x, y, z, rfl, h1, h2, h3⟩ := cells3 h; have e1 := lit_eq h1; have e3 := lit_eq h3; obtain ⟨a, c, e2⟩ := row_form h2; subst e1; subst e2; subst e3; exact ⟨_, _, _, _, _, rfl⟩
theorem argC_form2 {w : World} {G : Nat → Prop} {t : AR} {cs : List Value} (h : CellsAt w G (argC t) cs) : ∃ (s0 : List UInt8) (k : Nat) (n : Int) (s : List UInt8) (a1 : Option Addr) (l1 e1 : Nat) (a2 : Option Addr) (l2 e2 : Nat), cs = [.string ⟨s0.toArray⟩, .int .u8 (k : Int), .int .i64 n, .string ⟨s.toArray⟩, .slice a1 l1 e1, .slice a2 l2 e2] := by
 obtain ⟨v, us, rfl, h1, h2⟩ := cells_cons h; obtain ⟨k, n, s, a1, l1, e1, a2, l2, e2, rfl⟩ := valC_form2 h2; have := lit_eq h1; subst this; exact ⟨t.name, k, n, s, a1, l1, e1, a2, l2, e2, rfl⟩
theorem selC_form2 {w : World} {G : Nat → Prop} {t : SL} {cs : List Value} (h : CellsAt w G (selC t) cs) : ∃ (k : Nat) (s1 s2 s3 : List UInt8) (a1 : Option Addr) (l1 e1 : Nat) (a2 : Option Addr) (l2 e2 : Nat) (a3 : Option Addr) (l3 e3 : Nat), cs = [.int .u8 (k : Int), .string ⟨s1.toArray⟩, .string ⟨s2.toArray⟩, .string ⟨s3.toArray⟩, .slice a1 l1 e1, .slice a2 l2 e2, .slice a3 l3 e3] := by
 cases t with
 | mk k al name on_ gs ds sub =>
  rw [selC] at h; obtain ⟨v1, us, rfl, h1, h⟩ := cells_cons h; obtain ⟨v2, us, rfl, h2, h⟩ := cells_cons h; obtain ⟨v3, us, rfl, h3, h⟩ := cells_cons h; obtain ⟨v4, us, rfl, h4, h⟩ := cells_cons h; obtain ⟨v5, us, rfl, h5, h⟩ := cells_cons h; obtain ⟨v6, us, rfl, h6, h⟩ := cells_cons h; obtain ⟨v7, us, rfl, h7, h⟩ := cells_cons h; have := cells_nil h; subst this; have e1 := lit_eq h1; have e2 := lit_eq h2; have e3 := lit_eq h3; have e4 := lit_eq h4; subst e1; subst e2; subst e3; subst e4; obtain ⟨a1, c1, rfl⟩ := row_form h5; obtain ⟨a2, c2, rfl⟩ := row_form h6; obtain ⟨a3, c3, rfl⟩ := row_form h7; exact ⟨_, _, _, _, _, _, _, _, _, _, _, _, _, rfl⟩
theorem vdC_form2 {w : World} {G : Nat → Prop} {t : VD} {cs : List Value} (h : CellsAt w G (vdC t) cs) : ∃ (s0 s1 : List UInt8) (a0 : Option Addr) (l0 e0 : Nat) (b1 b2 : Bool) (k : Nat) (n : Int) (s : List UInt8) (a1 : Option Addr) (l1 e1 : Nat) (a2 : Option Addr) (l2 e2 : Nat),
  cs = [.string ⟨s0.toArray⟩, .string ⟨s1.toArray⟩, .slice a0 l0 e0, .bool b1, .bool b2, .int .u8 (k : Int), .int .i64 n, .string ⟨s.toArray⟩, .slice a1 l1 e1, .slice a2 l2 e2] := by
 obtain ⟨v, us, rfl, h1, h⟩ := cells_cons h; obtain ⟨ts, us, rfl, h2, h⟩ := CellsAt.split h; obtain ⟨v3, us, rfl, h3, h4⟩ := cells_cons h; obtain ⟨s1, a0, l0, e0, b1, rfl⟩ := trC_form2 h2; obtain ⟨k, n, s, a1, l1, e1, a2, l2, e2, rfl⟩ := valC_form2 h4; have e1 := lit_eq h1; have e3 := lit_eq h3; subst e1; subst e3; exact ⟨_, _, _, _, _, _, _, _, _, _, _, _, _, _, _, _, rfl⟩
def docC (d : DC) : List Cell := [.row 4 (d.ops.map opC), .row 3 (d.frags.map frC)]
def rowP {α : Type} (B n : Nat) (enc : α → List Cell) (w : World) (xs : List α) (v : Value) : Prop := CellAt w (fun q => B ≤ q) (.row n (xs.map enc)) v
theorem op_cells {w : World} {G : Nat → Prop} {o : OP} {vs : List Value} (h : CellsAt w G (opC o) vs) : ∃ vv sv, vs = [.bool o.mut_, .string ⟨o.name.toArray⟩, vv, sv] ∧ CellAt w G (.row 10 (o.vars.map vdC)) vv ∧ CellAt w G (.row 7 (o.sub.map selC)) sv := by
 obtain ⟨v1, us, rfl, h1, h⟩ := cells_cons h; obtain ⟨v2, us, rfl, h2, h⟩ := cells_cons h; obtain ⟨v3, us, rfl, h3, h⟩ := cells_cons h; obtain ⟨v4, us, rfl, h4, h⟩ := cells_cons h; have := cells_nil h; subst this; have e1 := lit_eq h1; have e2 := lit_eq h2; subst e1; subst e2; exact ⟨_, _, rfl, h3, h4⟩
theorem fr_cells {w : World} {G : Nat → Prop} {o : FR} {vs : List Value} (h : CellsAt w G (frC o) vs) : ∃ sv, vs = [.string ⟨o.name.toArray⟩, .string ⟨o.on_.toArray⟩, sv] ∧ CellAt w G (.row 7 (o.sub.map selC)) sv := by
 obtain ⟨v1, us, rfl, h1, h⟩ := cells_cons h; obtain ⟨v2, us, rfl, h2, h⟩ := cells_cons h; obtain ⟨v3, us, rfl, h3, h⟩ := cells_cons h; have := cells_nil h; subst this; have e1 := lit_eq h1; have e2 := lit_eq h2; subst e1; subst e2; exact ⟨_, rfl, h3⟩
theorem sel_cells {w : World} {G : Nat → Prop} {k : Nat} {al name on_ : List UInt8} {gs : List AR} {ds : List DR} {sub : List SL} {vs : List Value} (h : CellsAt w G (selC (.mk k al name on_ gs ds sub)) vs) : ∃ gv dv sv, vs = [.int .u8 (k : Int), .string ⟨al.toArray⟩, .string ⟨name.toArray⟩, .string ⟨on_.toArray⟩, gv, dv, sv] ∧ CellAt w G (.row 6 (gs.map argC)) gv ∧ CellAt w G (.row 2 (ds.map dirC)) dv ∧ CellAt w G (.row 7 (sub.map selC)) sv := by
 rw [selC] at h; obtain ⟨v1, us, rfl, h1, h⟩ := cells_cons h; obtain ⟨v2, us, rfl, h2, h⟩ := cells_cons h; obtain ⟨v3, us, rfl, h3, h⟩ := cells_cons h; obtain ⟨v4, us, rfl, h4, h⟩ := cells_cons h; obtain ⟨v5, us, rfl, h5, h⟩ := cells_cons h; obtain ⟨v6, us, rfl, h6, h⟩ := cells_cons h; obtain ⟨v7, us, rfl, h7, h⟩ := cells_cons h; have := cells_nil h; subst this; have e1 := lit_eq h1; have e2 := lit_eq h2; have e3 := lit_eq h3; have e4 := lit_eq h4; subst e1; subst e2; subst e3; subst e4; rw [selCs_map] at h7; exact ⟨_, _, _, rfl, h5, h6, h7⟩
theorem vd_cells {w : World} {G : Nat → Prop} {o : VD} {vs : List Value} (h : CellsAt w G (vdC o) vs) : ∃ ts us, vs = .string ⟨o.name.toArray⟩ :: (ts ++ .bool o.has :: us) ∧ CellsAt w G (trC o.t) ts ∧ CellsAt w G (valC o.v) us := by
 obtain ⟨v, us, rfl, h1, h⟩ := cells_cons h; obtain ⟨ts, us, rfl, h2, h⟩ := CellsAt.split h; obtain ⟨v3, us, rfl, h3, h4⟩ := cells_cons h; have e1 := lit_eq h1; have e3 := lit_eq h3; subst e1; subst e3; exact ⟨_, _, rfl, h2, h4⟩
theorem arg_cells {w : World} {G : Nat → Prop} {o : AR} {vs : List Value} (h : CellsAt w G (argC o) vs) : ∃ us, vs = .string ⟨o.name.toArray⟩ :: us ∧ CellsAt w G (valC o.v) us := by
 obtain ⟨v, us, rfl, h1, h2⟩ := cells_cons h; have e1 := lit_eq h1; subst e1; exact ⟨us, rfl, h2⟩
theorem dir_cells {w : World} {G : Nat → Prop} {o : DR} {vs : List Value} (h : CellsAt w G (dirC o) vs) : ∃ gv, vs = [.string ⟨o.name.toArray⟩, gv] ∧ CellAt w G (.row 6 (o.args.map argC)) gv := by
 obtain ⟨v, us, rfl, h1, h⟩ := cells_cons h; obtain ⟨v2, us, rfl, h2, h⟩ := cells_cons h; have := cells_nil h; subst this; have e1 := lit_eq h1; subst e1; exact ⟨_, rfl, h2⟩
theorem tr_cells {w : World} {G : Nat → Prop} {s : List UInt8} {b : Bool} {vs : List Value} (h : CellsAt w G (trC (.nm s b)) vs) : vs = [.string ⟨s.toArray⟩, .slice none 0 0, .bool b] ∨ ∃ a c, vs = [.string ⟨s.toArray⟩, .slice a 0 c, .bool b] := by
 rw [trC] at h; obtain ⟨x, y, z, rfl, h1, h2, h3⟩ := cells3 h; have e1 := lit_eq h1; have e3 := lit_eq h3; obtain ⟨a, c, e2⟩ := row_form h2; subst e1; subst e2; subst e3; exact .inr ⟨a, c, rfl⟩
theorem tr_ls_cells {w : World} {G : Nat → Prop} {t : TR} {b : Bool} {vs : List Value} (h : CellsAt w G (trC (.ls t b)) vs) : ∃ v, vs = [.string ⟨#[]⟩, v, .bool b] ∧ CellAt w G (.row 3 [trC t]) v := by
 rw [trC] at h; obtain ⟨x, y, z, rfl, h1, h2, h3⟩ := cells3 h; have e1 := lit_eq h1; have e3 := lit_eq h3; subst e1; subst e3; exact ⟨_, rfl, h2⟩
theorem val_cells {w : World} {G : Nat → Prop} {k : Nat} {n : Int} {s : List UInt8} {ks : List (List UInt8)} {vs : List VT} {cs : List Value} (h : CellsAt w G (valC (.mk k n s ks vs)) cs) : ∃ kv lv, cs = [.int .u8 (k : Int), .int .i64 n, .string ⟨s.toArray⟩, kv, lv] ∧ CellAt w G (.row 1 (ks.map fun k => [strC k])) kv ∧ CellAt w G (.row 5 (vs.map valC)) lv := by
 rw [valC, valCs_map] at h; obtain ⟨x, y, z, u, v, rfl, h1, h2, h3, h4, h5⟩ := cells5 h; have e1 := lit_eq h1; have e2 := lit_eq h2; have e3 := lit_eq h3; subst e1; subst e2; subst e3; exact ⟨_, _, rfl, h4, h5⟩
end Go.Proofs.YtnkpoddbbdmipaaGreatDoor
