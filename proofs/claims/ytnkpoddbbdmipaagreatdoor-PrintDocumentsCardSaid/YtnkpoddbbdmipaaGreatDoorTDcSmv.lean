/- . -/
import Derived.Test.YtnkpoddbbdmipaaGreatDoorTDcSdP
import Derived.Test.YtnkpoddbbdmipaaGreatDoorTDcOwC
import Derived.Test.YtnkpoddbbdmipaaGreatDoorTDcRgA
import Derived.Test.YtnkpoddbbdmipaaGreatDoorProg
import Derived.Deep.Cut
import Derived.Deep.CutRange
import Derived.Deep.CutBlock
import Derived.Lib.Hide
import Derived.StillTailTactics
import Derived.Deep.QuietTactic
import Derived.BigQuiet
namespace Go.Proofs.YtnkpoddbbdmipaaGreatDoor
open Go Go.RowKit
open Go.Lib (hid)
set_option linter.unusedVariables false
set_option linter.unusedSimpArgs false
def strC (s : List UInt8) : Cell := .lit (.string ⟨s.toArray⟩)
def boolC (b : Bool) : Cell := .lit (.bool b)
def intC (k : IntKind) (n : Int) : Cell := .lit (.int k n)
def trC : TR → List Cell
 | .nm s b => [strC s, .row 3 [], boolC b]
 | .ls t b => [strC [], .row 3 [trC t], boolC b]
def aggP {α : Type} (B : Nat) (enc : α → List Cell) (w : World) (x : α) (v : Value) : Prop := ∃ cs, v = .agg cs.toArray ∧ CellsAt w (fun q => B ≤ q) (enc x) cs
theorem cells3 {w : World} {G : Nat → Prop} {a b c : Cell} {cs : List Value} (h : CellsAt w G [a, b, c] cs) : ∃ x y z, cs = [x, y, z] ∧ CellAt w G a x ∧ CellAt w G b y ∧ CellAt w G c z := by
 simp only [CellsAt] at h; obtain ⟨x, _, rfl, h1, y, _, rfl, h2, z, _, rfl, h3, rfl⟩ := h; exact ⟨x, y, z, rfl, h1, h2, h3⟩
mutual
def valC : VT → List Cell
 | .mk k n s ks vs => [intC .u8 k, intC .i64 n, strC s, .row 1 (ks.map fun s => [strC s]), .row 5 (valCs vs)]
def valCs : List VT → List (List Cell)
 | [] => []
 | v :: vs => valC v :: valCs vs
end
theorem valueB_cons (fixed : Bool) (f : List Tok → PR VT) (t : Tok) (r : List Tok) : valueB fixed f (t :: r) =
  if t.kind = 2 then .ok (.mk 1 t.n [] [] []) r
  else if t.kind = 3 then .ok (.mk 2 0 t.text [] []) r
  else if isT wTrue (t :: r) then .ok (.mk 3 1 [] [] []) r
  else if isT wFalse (t :: r) then .ok (.mk 3 0 [] [] []) r
  else if isT wNull (t :: r) then .ok VT.zero r
  else if t.kind = 1 then .ok (.mk 4 0 t.text [] []) r
  else if !fixed && isT [36] (t :: r) then (nameP r).bind fun s r1 => .ok (.mk 7 0 s [] []) r1
  else if isT [91] (t :: r) then (anyP f [93] (r.length + 1) [] r).bind fun vs r1 => .ok (.mk 5 0 [] [] vs) r1
  else if isT [123] (t :: r) then (anyP (pairP f) [125] (r.length + 1) [] r).bind fun ps r1 => .ok (.mk 6 0 [] (ps.map (·.1)) (ps.map (·.2))) r1
  else .bad t.at_ 4 := rfl
theorem valCs_map : ∀ vs, valCs vs = vs.map valC
 | [] => by rw [valCs]; rfl
 | v :: vs => by rw [valCs, valCs_map vs]; rfl
theorem cells5 {w : World} {G : Nat → Prop} {a b c d e : Cell} {cs : List Value} (h : CellsAt w G [a, b, c, d, e] cs) : ∃ x y z u v, cs = [x, y, z, u, v] ∧ CellAt w G a x ∧ CellAt w G b y ∧ CellAt w G c z ∧ CellAt w G d u ∧ CellAt w G e v := by
 simp only [CellsAt] at h; obtain ⟨x, _, rfl, h1, y, _, rfl, h2, z, _, rfl, h3, u, _, rfl, h4, v, _, rfl, h5, rfl⟩ := h; exact ⟨x, y, z, u, v, rfl, h1, h2, h3, h4, h5⟩
theorem valC_form2 {w : World} {G : Nat → Prop} {t : VT} {cs : List Value} (h : CellsAt w G (valC t) cs) : ∃ (k : Nat) (n : Int) (s : List UInt8) (a1 : Option Addr) (l1 e1 : Nat) (a2 : Option Addr) (l2 e2 : Nat), cs = [.int .u8 (k : Int), .int .i64 n, .string ⟨s.toArray⟩, .slice a1 l1 e1, .slice a2 l2 e2] := by
 cases t with
 | mk k n s ks vs =>
  rw [valC] at h; obtain ⟨x, y, z, u, v, rfl, h1, h2, h3, h4, h5⟩ := cells5 h; simp only [intC, strC, CellAt] at h1 h2 h3; obtain ⟨a1, e1, rfl, -⟩ := h4.rows; obtain ⟨a2, e2, rfl, -⟩ := h5.rows; obtain ⟨rfl, -⟩ := h1; obtain ⟨rfl, -⟩ := h2; obtain ⟨rfl, -⟩ := h3; exact ⟨k, n, s, a1, _, e1, a2, _, e2, rfl⟩
theorem leafC {w : World} {G : Nat → Prop} (k : Nat) (n : Int) (s : List UInt8) : CellsAt w G (valC (.mk k n s [] [])) [.int .u8 (k : Int), .int .i64 n, .string ⟨s.toArray⟩, .slice none 0 0, .slice none 0 0] := by
 rw [valC]; exact CellsAt.lit rfl (CellsAt.lit rfl (CellsAt.lit rfl (CellsAt.cons (CellAt.nilRow _ _ _) (CellsAt.cons (by rw [valCs]; exact CellAt.nilRow _ _ _) (CellsAt.nil _ _)))))
theorem listC {w : World} {G : Nat → Prop} {vs : List VT} {v : Value} (h : CellAt w G (.row 5 (vs.map valC)) v) : CellsAt w G (valC (.mk 5 0 [] [] vs)) [.int .u8 5, .int .i64 0, .string ⟨#[]⟩, .slice none 0 0, v] := by
 rw [valC]; exact CellsAt.lit rfl (CellsAt.lit rfl (CellsAt.lit rfl (CellsAt.cons (CellAt.nilRow _ _ _) (CellsAt.cons (by rw [valCs_map]; exact h) (CellsAt.nil _ _)))))
theorem objC {w : World} {G : Nat → Prop} {ps : List (List UInt8 × VT)} {u v : Value} (hk : CellAt w G (.row 1 (ps.map fun p => [strC p.1])) u) (h : CellAt w G (.row 5 (ps.map fun p => valC p.2)) v) : CellsAt w G (valC (.mk 6 0 [] (ps.map (·.1)) (ps.map (·.2)))) [.int .u8 6, .int .i64 0, .string ⟨#[]⟩, u, v] := by
 rw [valC]; exact CellsAt.lit rfl (CellsAt.lit rfl (CellsAt.lit rfl (CellsAt.cons (by rw [List.map_map]; exact hk) (CellsAt.cons (by rw [valCs_map, List.map_map]; exact h) (CellsAt.nil _ _)))))
def argC (a : AR) : List Cell := strC a.name :: valC a.v
def dirC (d : DR) : List Cell := [strC d.name, .row 6 (d.args.map argC)]
mutual
def selC : SL → List Cell
 | .mk k al name on_ gs ds sub => [intC .u8 k, strC al, strC name, strC on_, .row 6 (gs.map argC), .row 2 (ds.map dirC), .row 7 (selCs sub)]
def selCs : List SL → List (List Cell)
 | [] => []
 | s :: l => selC s :: selCs l
end
theorem selCs_map : ∀ l, selCs l = l.map selC
 | [] => by rw [selCs]; rfl
 | s :: l => by rw [selCs, selCs_map l]; rfl
def vdC (v : VD) : List Cell := strC v.name :: (trC v.t ++ boolC v.has :: valC v.v)
def opC (o : OP) : List Cell := [boolC o.mut_, strC o.name, .row 10 (o.vars.map vdC), .row 7 (o.sub.map selC)]
def frC (f : FR) : List Cell := [strC f.name, strC f.on_, .row 7 (f.sub.map selC)]
theorem cells_cons {w : World} {G : Nat → Prop} {c : Cell} {cs : List Cell} {vs : List Value} (h : CellsAt w G (c :: cs) vs) : ∃ v us, vs = v :: us ∧ CellAt w G c v ∧ CellsAt w G cs us := by
 simp only [CellsAt] at h; exact h
theorem cells_nil {w : World} {G : Nat → Prop} {vs : List Value} (h : CellsAt w G [] vs) : vs = [] := by
 simp only [CellsAt] at h; exact h
theorem lit_eq {w : World} {G : Nat → Prop} {u v : Value} (h : CellAt w G (.lit u) v) : v = u := by
 simp only [CellAt] at h; exact h.1
theorem row_form {w : World} {G : Nat → Prop} {n : Nat} {rs : List (List Cell)} {v : Value} (h : CellAt w G (.row n rs) v) : ∃ a c, v = .slice a rs.length c := by
 obtain ⟨a, c, e, -⟩ := h.rows; exact ⟨a, c, e⟩
theorem trC_form2 {w : World} {G : Nat → Prop} {t : TR} {cs : List Value} (h : CellsAt w G (trC t) cs) : ∃ (s : List UInt8) (a : Option Addr) (l c : Nat) (bb : Bool), cs = [.string ⟨s.toArray⟩, .slice a l c, .bool bb] := by
 cases t with
 | nm s b =>
  rw [trC] at h; obtain ⟨x, y, z, rfl, h1, h2, h3⟩ := cells3 h; have e1 := lit_eq h1; have e3 := lit_eq h3; obtain ⟨a, c, e2⟩ := row_form h2; subst e1; subst e2; subst e3; exact ⟨_, _, _, _, _, rfl⟩
 | ls t b =>
  rw [trC] at h; obtain ⟨x, y, z, rfl, h1, h2, h3⟩ := cells3 h; have e1 := lit_eq h1; have e3 := lit_eq h3; obtain ⟨a, c, e2⟩ := row_form h2; subst e1; subst e2; subst e3; exact ⟨_, _, _, _, _, rfl⟩
theorem argC_form2 {w : World} {G : Nat → Prop} {t : AR} {cs : List Value} (h : CellsAt w G (argC t) cs) : ∃ (s0 : List UInt8) (k : Nat) (n : Int) (s : List UInt8) (a1 : Option Addr) (l1 e1 : Nat) (a2 : Option Addr) (l2 e2 : Nat), cs = [.string ⟨s0.toArray⟩, .int .u8 (k : Int), .int .i64 n, .string ⟨s.toArray⟩, .slice a1 l1 e1, .slice a2 l2 e2] := by
 obtain ⟨v, us, rfl, h1, h2⟩ := cells_cons h; obtain ⟨k, n, s, a1, l1, e1, a2, l2, e2, rfl⟩ := valC_form2 h2; have := lit_eq h1; subst this; exact ⟨t.name, k, n, s, a1, l1, e1, a2, l2, e2, rfl⟩
theorem selC_form2 {w : World} {G : Nat → Prop} {t : SL} {cs : List Value} (h : CellsAt w G (selC t) cs) : ∃ (k : Nat) (s1 s2 s3 : List UInt8) (a1 : Option Addr) (l1 e1 : Nat) (a2 : Option Addr) (l2 e2 : Nat) (a3 : Option Addr) (l3 e3 : Nat), cs = [.int .u8 (k : Int), .string ⟨s1.toArray⟩, .string ⟨s2.toArray⟩, .string ⟨s3.toArray⟩, .slice a1 l1 e1, .slice a2 l2 e2, .slice a3 l3 e3] := by
 cases t with
 | mk k al name on_ gs ds sub =>
  rw [selC] at h; obtain ⟨v1, us, rfl, h1, h⟩ := cells_cons h; obtain ⟨v2, us, rfl, h2, h⟩ := cells_cons h; obtain ⟨v3, us, rfl, h3, h⟩ := cells_cons h; obtain ⟨v4, us, rfl, h4, h⟩ := cells_cons h; obtain ⟨v5, us, rfl, h5, h⟩ := cells_cons h; obtain ⟨v6, us, rfl, h6, h⟩ := cells_cons h; obtain ⟨v7, us, rfl, h7, h⟩ := cells_cons h; have := cells_nil h; subst this; have e1 := lit_eq h1; have e2 := lit_eq h2; have e3 := lit_eq h3; have e4 := lit_eq h4; subst e1; subst e2; subst e3; subst e4; obtain ⟨a1, c1, rfl⟩ := row_form h5; obtain ⟨a2, c2, rfl⟩ := row_form h6; obtain ⟨a3, c3, rfl⟩ := row_form h7; exact ⟨_, _, _, _, _, _, _, _, _, _, _, _, _, rfl⟩
theorem vdC_form2 {w : World} {G : Nat → Prop} {t : VD} {cs : List Value} (h : CellsAt w G (vdC t) cs) : ∃ (s0 s1 : List UInt8) (a0 : Option Addr) (l0 e0 : Nat) (b1 b2 : Bool) (k : Nat) (n : Int) (s : List UInt8) (a1 : Option Addr) (l1 e1 : Nat) (a2 : Option Addr) (l2 e2 : Nat),
  cs = [.string ⟨s0.toArray⟩, .string ⟨s1.toArray⟩, .slice a0 l0 e0, .bool b1, .bool b2, .int .u8 (k : Int), .int .i64 n, .string ⟨s.toArray⟩, .slice a1 l1 e1, .slice a2 l2 e2] := by
 obtain ⟨v, us, rfl, h1, h⟩ := cells_cons h; obtain ⟨ts, us, rfl, h2, h⟩ := CellsAt.split h; obtain ⟨v3, us, rfl, h3, h4⟩ := cells_cons h; obtain ⟨s1, a0, l0, e0, b1, rfl⟩ := trC_form2 h2; obtain ⟨k, n, s, a1, l1, e1, a2, l2, e2, rfl⟩ := valC_form2 h4; have e1 := lit_eq h1; have e3 := lit_eq h3; subst e1; subst e3; exact ⟨_, _, _, _, _, _, _, _, _, _, _, _, _, _, _, _, rfl⟩
def docC (d : DC) : List Cell := [.row 4 (d.ops.map opC), .row 3 (d.frags.map frC)]
def rowP {α : Type} (B n : Nat) (enc : α → List Cell) (w : World) (xs : List α) (v : Value) : Prop := CellAt w (fun q => B ≤ q) (.row n (xs.map enc)) v
theorem op_cells {w : World} {G : Nat → Prop} {o : OP} {vs : List Value} (h : CellsAt w G (opC o) vs) : ∃ vv sv, vs = [.bool o.mut_, .string ⟨o.name.toArray⟩, vv, sv] ∧ CellAt w G (.row 10 (o.vars.map vdC)) vv ∧ CellAt w G (.row 7 (o.sub.map selC)) sv := by
 obtain ⟨v1, us, rfl, h1, h⟩ := cells_cons h; obtain ⟨v2, us, rfl, h2, h⟩ := cells_cons h; obtain ⟨v3, us, rfl, h3, h⟩ := cells_cons h; obtain ⟨v4, us, rfl, h4, h⟩ := cells_cons h; have := cells_nil h; subst this; have e1 := lit_eq h1; have e2 := lit_eq h2; subst e1; subst e2; exact ⟨_, _, rfl, h3, h4⟩
theorem fr_cells {w : World} {G : Nat → Prop} {o : FR} {vs : List Value} (h : CellsAt w G (frC o) vs) : ∃ sv, vs = [.string ⟨o.name.toArray⟩, .string ⟨o.on_.toArray⟩, sv] ∧ CellAt w G (.row 7 (o.sub.map selC)) sv := by
 obtain ⟨v1, us, rfl, h1, h⟩ := cells_cons h; obtain ⟨v2, us, rfl, h2, h⟩ := cells_cons h; obtain ⟨v3, us, rfl, h3, h⟩ := cells_cons h; have := cells_nil h; subst this; have e1 := lit_eq h1; have e2 := lit_eq h2; subst e1; subst e2; exact ⟨_, rfl, h3⟩
theorem sel_cells {w : World} {G : Nat → Prop} {k : Nat} {al name on_ : List UInt8} {gs : List AR} {ds : List DR} {sub : List SL} {vs : List Value} (h : CellsAt w G (selC (.mk k al name on_ gs ds sub)) vs) : ∃ gv dv sv, vs = [.int .u8 (k : Int), .string ⟨al.toArray⟩, .string ⟨name.toArray⟩, .string ⟨on_.toArray⟩, gv, dv, sv] ∧ CellAt w G (.row 6 (gs.map argC)) gv ∧ CellAt w G (.row 2 (ds.map dirC)) dv ∧ CellAt w G (.row 7 (sub.map selC)) sv := by
 rw [selC] at h; obtain ⟨v1, us, rfl, h1, h⟩ := cells_cons h; obtain ⟨v2, us, rfl, h2, h⟩ := cells_cons h; obtain ⟨v3, us, rfl, h3, h⟩ := cells_cons h; obtain ⟨v4, us, rfl, h4, h⟩ := cells_cons h; obtain ⟨v5, us, rfl, h5, h⟩ := cells_cons h; obtain ⟨v6, us, rfl, h6, h⟩ := cells_cons h; obtain ⟨v7, us, rfl, h7, h⟩ := cells_cons h; have := cells_nil h; subst this; have e1 := lit_eq h1; have e2 := lit_eq h2; have e3 := lit_eq h3; have e4 := lit_eq h4; subst e1; subst e2; subst e3; subst e4; rw [selCs_map] at h7; exact ⟨_, _, _, rfl, h5, h6, h7⟩
theorem vd_cells {w : World} {G : Nat → Prop} {o : VD} {vs : List Value} (h : CellsAt w G (vdC o) vs) : ∃ ts us, vs = .string ⟨o.name.toArray⟩ :: (ts ++ .bool o.has :: us) ∧ CellsAt w G (trC o.t) ts ∧ CellsAt w G (valC o.v) us := by
 obtain ⟨v, us, rfl, h1, h⟩ := cells_cons h; obtain ⟨ts, us, rfl, h2, h⟩ := CellsAt.split h; obtain ⟨v3, us, rfl, h3, h4⟩ := cells_cons h; have e1 := lit_eq h1; have e3 := lit_eq h3; subst e1; subst e3; exact ⟨_, _, rfl, h2, h4⟩
theorem arg_cells {w : World} {G : Nat → Prop} {o : AR} {vs : List Value} (h : CellsAt w G (argC o) vs) : ∃ us, vs = .string ⟨o.name.toArray⟩ :: us ∧ CellsAt w G (valC o.v) us := by
 obtain ⟨v, us, rfl, h1, h2⟩ := cells_cons h; have e1 := lit_eq h1; subst e1; exact ⟨us, rfl, h2⟩
theorem dir_cells {w : World} {G : Nat → Prop} {o : DR} {vs : List Value} (h : CellsAt w G (dirC o) vs) : ∃ gv, vs = [.string ⟨o.name.toArray⟩, gv] ∧ CellAt w G (.row 6 (o.args.map argC)) gv := by
 obtain ⟨v, us, rfl, h1, h⟩ := cells_cons h; obtain ⟨v2, us, rfl, h2, h⟩ := cells_cons h; have := cells_nil h; subst this; have e1 := lit_eq h1; subst e1; exact ⟨_, rfl, h2⟩
theorem tr_cells {w : World} {G : Nat → Prop} {s : List UInt8} {b : Bool} {vs : List Value} (h : CellsAt w G (trC (.nm s b)) vs) : vs = [.string ⟨s.toArray⟩, .slice none 0 0, .bool b] ∨ ∃ a c, vs = [.string ⟨s.toArray⟩, .slice a 0 c, .bool b] := by
 rw [trC] at h; obtain ⟨x, y, z, rfl, h1, h2, h3⟩ := cells3 h; have e1 := lit_eq h1; have e3 := lit_eq h3; obtain ⟨a, c, e2⟩ := row_form h2; subst e1; subst e2; subst e3; exact .inr ⟨a, c, rfl⟩
theorem tr_ls_cells {w : World} {G : Nat → Prop} {t : TR} {b : Bool} {vs : List Value} (h : CellsAt w G (trC (.ls t b)) vs) : ∃ v, vs = [.string ⟨#[]⟩, v, .bool b] ∧ CellAt w G (.row 3 [trC t]) v := by
 rw [trC] at h; obtain ⟨x, y, z, rfl, h1, h2, h3⟩ := cells3 h; have e1 := lit_eq h1; have e3 := lit_eq h3; subst e1; subst e3; exact ⟨_, rfl, h2⟩
theorem val_cells {w : World} {G : Nat → Prop} {k : Nat} {n : Int} {s : List UInt8} {ks : List (List UInt8)} {vs : List VT} {cs : List Value} (h : CellsAt w G (valC (.mk k n s ks vs)) cs) : ∃ kv lv, cs = [.int .u8 (k : Int), .int .i64 n, .string ⟨s.toArray⟩, kv, lv] ∧ CellAt w G (.row 1 (ks.map fun k => [strC k])) kv ∧ CellAt w G (.row 5 (vs.map valC)) lv := by
 rw [valC, valCs_map] at h; obtain ⟨x, y, z, u, v, rfl, h1, h2, h3, h4, h5⟩ := cells5 h; have e1 := lit_eq h1; have e2 := lit_eq h2; have e3 := lit_eq h3; subst e1; subst e2; subst e3; exact ⟨_, _, rfl, h4, h5⟩
theorem keepc {w w' : World} {p : Addr} {v : Value} (ho : Only (fun _ => False) w w') (h : w.cell? p = some v) : w'.cell? p = some v := by
 rw [cell_keep ho (cell_lt h) (fun h => h)]; exact h
theorem rows_at {α : Type} {enc : α → List Cell} {w : World} {G : Nat → Prop} {n : Nat} {xs : List α} {v : Value} (h : CellAt w G (.row n (xs.map enc)) v) : ∃ a c, v = .slice a xs.length c ∧ xs.length ≤ c ∧ c ≤ 9223372036854775807 ∧
  ∀ i (hi : i < xs.length), ∃ g o cs, a = some ⟨g, o, none⟩ ∧ cs.length = n ∧ (∀ j u, cs[j]? = some u → w.cell? ⟨g, o + i * n + j, none⟩ = some u) ∧ CellsAt w G (enc xs[i]) cs := by
 obtain ⟨a, c, rfl, h1, h2, h3⟩ := h.rows; rw [List.length_map] at h1; refine ⟨a, c, by rw [List.length_map], h1, h2, fun i hi => ?_⟩
 obtain ⟨b, off, vs, rfl, -, -, k1, k2, k3⟩ := h3 i (by rw [List.length_map]; exact hi); rw [List.getElem_map] at k3; exact ⟨b, off, vs, rfl, k1, fun j u hu => k2 j u hu, k3⟩
theorem str_cell {w : World} {G : Nat → Prop} {s : List UInt8} {cs : List Value} (h : CellsAt w G [strC s] cs) : cs = [.string ⟨s.toArray⟩] := by
 obtain ⟨v, us, rfl, h1, h⟩ := cells_cons h; have := cells_nil h; subst this; have e1 := lit_eq h1; subst e1; rfl
theorem cells5_of {w : World} {g p : Nat} {x y z u v : Value} (h : ∀ j q, ([x, y, z, u, v] : List Value)[j]? = some q → w.cell? ⟨g, p + j, none⟩ = some q) : w.cell? ⟨g, p, none⟩ = some x ∧ w.cell? ⟨g, p + 1, none⟩ = some y ∧ w.cell? ⟨g, p + 2, none⟩ = some z ∧ w.cell? ⟨g, p + 3, none⟩ = some u ∧ w.cell? ⟨g, p + 4, none⟩ = some v :=
 ⟨h 0 x rfl, h 1 y rfl, h 2 z rfl, h 3 u rfl, h 4 v rfl⟩
theorem sizeOf_get {k : Nat} {n : Int} {s : List UInt8} {ks : List (List UInt8)} {vs : List VT} (j : Nat) (h : j < vs.length) : SizeOf.sizeOf vs[j] < SizeOf.sizeOf (VT.mk k n s ks vs) := by
 have := List.sizeOf_lt_of_mem (List.getElem_mem h); simp only [VT.mk.sizeOf_spec]; omega
def SameV (z : Nat) : Prop := ∀ (t : VT), SizeOf.sizeOf t ≤ z → ∀ (G G' : Nat → Prop) (w : World) (cs ds : List Value), CellsAt w G (valC t) cs → CellsAt w G' (valC t) ds →
  Calls Tryz.prog 52 #[.agg cs.toArray, .agg ds.toArray] w (fun e w' => e = .returned (.bool true) ∧ Only (fun _ => False) w w')
set_option maxRecDepth 100000 in
set_option maxHeartbeats 8000000 in
theorem sameV_step (z : Nat) (ih : SameV z) : SameV (z + 1) := by
 intro t ht G G' w cs ds hv hu; obtain ⟨k, n, s, ks, vs⟩ := t; obtain ⟨kv, lv, rfl, hk, hl⟩ := val_cells hv; obtain ⟨kv2, lv2, rfl, hk2, hl2⟩ := val_cells hu; obtain ⟨ak, ck, rfl, hck, hck', hK⟩ := rows_at hk; obtain ⟨ak2, ck2, rfl, hck2, hck2', hK2⟩ := rows_at hk2; obtain ⟨av, cv, rfl, hcv, hcv', hV⟩ := rows_at hl; obtain ⟨av2, cv2, rfl, hcv2, hcv2', hV2⟩ := rows_at hl2; have IH := hid ih; have HT := hid ht; obtain ⟨lv, hlv⟩ : ∃ lv, lv = vs.length := ⟨_, rfl⟩; obtain ⟨lk, hlk⟩ : ∃ lk, lk = ks.length := ⟨_, rfl⟩; rw [← hlv] at hcv hcv2 ⊢; rw [← hlk] at hck hck2 ⊢; obtain ⟨wb, hwb⟩ := eX ((w.alloc (.cells #[.int .u8 k, .int .i64 n, .string ⟨s.toArray⟩, .slice ak lk ck, .slice av lv cv] 35)).alloc (.cells #[.int .u8 k, .int .i64 n, .string ⟨s.toArray⟩, .slice ak2 lk ck2, .slice av2 lv cv2] 35)); have ob : Only (fun _ => False) w wb := by rw [← hwb]; exact ((Only.refl _ w).alloc _).alloc _
 obtain ⟨bA, hbA⟩ := eX (w.heap.size); obtain ⟨bB, hbB⟩ := eX (bA + 1); have hx1 : wb.heap[bA]? = some (.cells #[.int .u8 k, .int .i64 n, .string ⟨s.toArray⟩, .slice ak lk ck, .slice av lv cv] 35 (0, 0)) := by rw [← hwb, ← hbA]; exact heap_old (heap_new w _) _
 have hx2 : wb.heap[bB]? = some (.cells #[.int .u8 k, .int .i64 n, .string ⟨s.toArray⟩, .slice ak2 lk ck2, .slice av2 lv cv2] 35 (0, 0)) := by
  rw [← hwb, ← hbB, ← hbA]; have := heap_new (w.alloc (.cells #[.int .u8 k, .int .i64 n, .string ⟨s.toArray⟩, .slice ak lk ck, .slice av lv cv] 35)) (.cells #[.int .u8 k, .int .i64 n, .string ⟨s.toArray⟩, .slice ak2 lk ck2, .slice av2 lv cv2] 35); rw [World.size_alloc] at this; exact this
 obtain ⟨c0, c1, c2, c3, c4, -⟩ := boxN5 hx1; obtain ⟨d0, d1, d2, d3, d4, -⟩ := boxN5 hx2; have HC := hid (And.intro c3 (And.intro c4 (And.intro d3 d4))); have HLV := hid hlv; have HLK := hid hlk; have HOB := hid ob; have HWB := hid hwb; have HBA := hid hbA; have HBB := hid hbB; have HKK := hid hK; have HKK2 := hid hK2; have HVV := hid hV; have HVV2 := hid hV2; clear hx1 hx2 hK hK2 hV hV2 hk hk2 hl hl2 hv hu ob hwb hbA hbB hlv hlk ih ht
 go_enter Tryz.func52, Tryz.ntmps52
 go_upto_region 1 with (fail)
 rw [HWB.out, HBA.out, HBB.out]
 go_wp2_with fail
 clear c0 c1 c2 c3 c4 d0 d1 d2 d3 d4
 go_loopw [5] (fun v wr => ∃ i : Nat, v = .int .i64 (i : Int) ∧ i ≤ lk ∧ Hid (Only (fun _ => False) wb wr)) (fun v _ => lk - (intOf v).toNat)
 case atStart => exact ⟨0, by simp, by omega, hid oR⟩
 case round =>
  obtain ⟨i, rfl, hi, HO⟩ := hrel; obtain ⟨c3, c4, d3, d4⟩ := HC.out; have c3 := keepc HO.out c3; have d3 := keepc HO.out d3
  by_cases hlt : i < lk
  ·have t3 : decide ((i : Int) < (lk : Int)) = true := by simpa using hlt
   have hi0 : (0 : Int) ≤ (i : Int) := by omega
   have hi1 : (i : Int) < (lk : Int) := by omega
   obtain ⟨gk, ok, cs, rfl, -, hr, hc⟩ := HKK.out i (by rw [← HLK.out]; exact hlt); obtain ⟨gk2, ok2, cs2, rfl, -, hr2, hc2⟩ := HKK2.out i (by rw [← HLK.out]; exact hlt); have := str_cell hc; subst this; have := str_cell hc2; subst this; have e1 := keepc (HOB.out.trans HO.out) (hr 0 _ rfl); have e2 := keepc (HOB.out.trans HO.out) (hr2 0 _ rfl); rw [Nat.mul_one, Nat.add_zero] at e1 e2
   generalize (ks[i]'(by rw [← HLK.out]; exact hlt)) = ki at *
   have HX := hid (fun (wx : World) (ox : Only (fun _ => False) wr.drew wx) => And.intro (keepc ((Only.refl _ wr).drew.trans ox) c3) (And.intro (keepc ((Only.refl _ wr).drew.trans ox) d3) (And.intro (keepc ((Only.refl _ wr).drew.trans ox) e1) (keepc ((Only.refl _ wr).drew.trans ox) e2)))); clear hc hc2 hr hr2 e1 e2 c4 d4
   go_upto_region 6 with (fail)
   clear c3 d3; refine wp_region_steps 10 (by kernel_rfl) rfl (by kernel_rfl) [some 51, some 52, some 53, some 54, some 55, some 56, some 57, some 58, some 59, some 60] rfl rfl (fun _ => False) [(fun v _ => v = (.pointer (some ⟨bA, 3, none⟩))), (fun v _ => v = (.slice (some ⟨gk, ok, none⟩) lk ck)), (fun v _ => v = (.int .i64 (i : Int))), (fun v _ => v = (.pointer (some ⟨gk, ok + i, none⟩))), (fun v _ => v = (.string ⟨ki.toArray⟩)), (fun v _ => v = (.pointer (some ⟨bB, 3, none⟩))), (fun v _ => v = (.slice (some ⟨gk2, ok2, none⟩) lk ck2)), (fun v _ => v = (.int .i64 (i : Int))), (fun v _ => v = (.pointer (some ⟨gk2, ok2 + i, none⟩))), (fun v _ => v = (.string ⟨ki.toArray⟩))] rfl ⟨?_, ?_, ?_, ?_, ?_, ?_, ?_, ?_, ?_, ?_, trivial⟩ _ rfl ⟨?_, ?_, ?_, ?_, ?_, ?_, ?_, ?_, ?_, ?_, trivial⟩ ?_
   iterate 10 exact Stable.is _ _
   ·intro x wx ox hN TT HTT; unfold StepTo; simp only [putAll, Act.put, zA, zB, zC]; clear hN
    go_wp2_with fail
    exact ⟨rfl, _, rfl, HTT.out _ _ rfl oR⟩
   ·intro x wx ox hN TT HTT; unfold StepTo; simp only [putAll, Act.put, zA, zB, zC, eI (hN.1 rfl)]; clear hN; obtain ⟨m1, m2, m3, m4⟩ := HX.out wx ox
    go_wp2_with fail
    exact ⟨rfl, _, rfl, HTT.out _ _ rfl oR⟩
   ·intro x wx ox hN TT HTT; unfold StepTo; simp only [putAll, Act.put, zA, zB, zC]; clear hN
    go_wp2_with fail
    exact ⟨rfl, _, rfl, HTT.out _ _ rfl oR⟩
   ·intro x wx ox hN TT HTT; unfold StepTo; simp only [putAll, Act.put, zA, zB, zC, eI (hN.1 rfl), eI (hN.2.1 rfl)]; clear hN
    go_wp2_with fail
    exact ⟨rfl, _, rfl, HTT.out _ _ rfl oR⟩
   ·intro x wx ox hN TT HTT; unfold StepTo; simp only [putAll, Act.put, zA, zB, zC, eI (hN.1 rfl)]; clear hN; obtain ⟨m1, m2, m3, m4⟩ := HX.out wx ox
    go_wp2_with fail
    exact ⟨rfl, _, rfl, HTT.out _ _ rfl oR⟩
   ·intro x wx ox hN TT HTT; unfold StepTo; simp only [putAll, Act.put, zA, zB, zC]; clear hN
    go_wp2_with fail
    exact ⟨rfl, _, rfl, HTT.out _ _ rfl oR⟩
   ·intro x wx ox hN TT HTT; unfold StepTo; simp only [putAll, Act.put, zA, zB, zC, eI (hN.1 rfl)]; clear hN; obtain ⟨m1, m2, m3, m4⟩ := HX.out wx ox
    go_wp2_with fail
    exact ⟨rfl, _, rfl, HTT.out _ _ rfl oR⟩
   ·intro x wx ox hN TT HTT; unfold StepTo; simp only [putAll, Act.put, zA, zB, zC]; clear hN
    go_wp2_with fail
    exact ⟨rfl, _, rfl, HTT.out _ _ rfl oR⟩
   ·intro x wx ox hN TT HTT; unfold StepTo; simp only [putAll, Act.put, zA, zB, zC, eI (hN.1 rfl), eI (hN.2.1 rfl)]; clear hN
    go_wp2_with fail
    exact ⟨rfl, _, rfl, HTT.out _ _ rfl oR⟩
   ·intro x wx ox hN TT HTT; unfold StepTo; simp only [putAll, Act.put, zA, zB, zC, eI (hN.1 rfl)]; clear hN; obtain ⟨m1, m2, m3, m4⟩ := HX.out wx ox
    go_wp2_with fail
    exact ⟨rfl, _, rfl, HTT.out _ _ rfl oR⟩
   intro xz wxz oxz hN; simp only [putAll, Act.put, zA, zB, zC, eI hN.1, eI hN.2.1, eI hN.2.2.1, eI hN.2.2.2.1, eI hN.2.2.2.2.1, eI hN.2.2.2.2.2.1, eI hN.2.2.2.2.2.2.1, eI hN.2.2.2.2.2.2.2.1, eI hN.2.2.2.2.2.2.2.2.1, eI hN.2.2.2.2.2.2.2.2.2.1]; clear hN; have OZ := hid (HO.out.trans ((Only.refl _ wr).drew.trans oxz)); clear oxz
   go_wp2_with fail
   go_roundw
   case rel => exact ⟨i + 1, by simp [go_sem], by omega, OZ⟩
   case measure => simp [intOf]; omega
  ·have hke : i = lk := by omega
   subst hke; have t3 : decide ((i : Int) < (i : Int)) = false := by simp
   go_wp2_with fail
   clear c3 d3 c4 d4
   go_loopw [6] (fun v wr => ∃ j : Nat, v = .int .i64 (j : Int) ∧ j ≤ lv ∧ Hid (Only (fun _ => False) wb wr)) (fun v _ => lv - (intOf v).toNat)
   case atStart => exact ⟨0, by simp, by omega, HO⟩
   case round =>
    clear HO; obtain ⟨j, rfl, hj, HO⟩ := hrel; obtain ⟨c3, c4, d3, d4⟩ := HC.out; have c4 := keepc HO.out c4; have d4 := keepc HO.out d4; clear c3 d3
    by_cases hlt : j < lv
    ·have t4 : decide ((j : Int) < (lv : Int)) = true := by simpa using hlt
     have hj0 : (0 : Int) ≤ (j : Int) := by omega
     have hj1 : (j : Int) < (lv : Int) := by omega
     have hvi : j < vs.length := by rw [← HLV.out]; exact hlt
     obtain ⟨gv, ov, cs, rfl, -, hr, hc⟩ := HVV.out j hvi; obtain ⟨gv2, ov2, cs2, rfl, -, hr2, hc2⟩ := HVV2.out j hvi; have hrec := fun (wx : World) (ox : Only (fun _ => False) w wx) => IH.out vs[j] (by have h1 := sizeOf_get (k := k) (n := n) (s := s) (ks := ks) j hvi; have h2 := HT.out; omega) G G' wx _ _ (CellsAt.only ox (fun _ _ h => h) _ _ hc) (CellsAt.only ox (fun _ _ h => h) _ _ hc2)
     obtain ⟨k', n', s', ak', lk', ck', av', lv', cv', rfl⟩ := valC_form2 hc; obtain ⟨k'', n'', s'', ak'', lk'', ck'', av'', lv'', cv'', rfl⟩ := valC_form2 hc2; obtain ⟨e0, e1, e2, e3, e4⟩ := cells5_of hr; obtain ⟨f0, f1, f2, f3, f4⟩ := cells5_of hr2; have oww : Only (fun _ => False) w wr := HOB.out.trans HO.out; have HX := hid (fun (wx : World) (ox : Only (fun _ => False) wr.drew wx) => have o := (Only.refl _ wr).drew.trans ox; have ow := oww.trans o; And.intro (keepc o c4) (And.intro (keepc o d4) (And.intro (keepc ow e0) (And.intro (keepc ow e1) (And.intro (keepc ow e2) (And.intro (keepc ow e3) (And.intro (keepc ow e4) (And.intro (keepc ow f0) (And.intro (keepc ow f1) (And.intro (keepc ow f2) (And.intro (keepc ow f3) (keepc ow f4)))))))))))); have HREC := hid (fun (wx : World) (ox : Only (fun _ => False) wr.drew wx) => hrec wx (oww.trans ((Only.refl _ wr).drew.trans ox))); clear hrec hr hr2 hc hc2 e0 e1 e2 e3 e4 f0 f1 f2 f3 f4 oww
     go_upto_region 11 with (fail)
     clear c4 d4; refine wp_region_steps 11 (by kernel_rfl) rfl (by kernel_rfl) [some 69, some 70, some 71, some 72, some 73, some 74, some 75, some 76, some 77, some 78, some 79] rfl rfl (fun _ => False) [(fun v _ => v = (.pointer (some ⟨bA, 4, none⟩))), (fun v _ => v = (.slice (some ⟨gv, ov, none⟩) lv cv)), (fun v _ => v = (.int .i64 (j : Int))), (fun v _ => v = (.pointer (some ⟨gv, ov + j * 5, none⟩))), (fun v _ => v = (.agg #[.int .u8 (k' : Int), .int .i64 n', .string ⟨s'.toArray⟩, .slice ak' lk' ck', .slice av' lv' cv'])), (fun v _ => v = (.pointer (some ⟨bB, 4, none⟩))), (fun v _ => v = (.slice (some ⟨gv2, ov2, none⟩) lv cv2)), (fun v _ => v = (.int .i64 (j : Int))), (fun v _ => v = (.pointer (some ⟨gv2, ov2 + j * 5, none⟩))), (fun v _ => v = (.agg #[.int .u8 (k'' : Int), .int .i64 n'', .string ⟨s''.toArray⟩, .slice ak'' lk'' ck'', .slice av'' lv'' cv''])), (fun v _ => v = (.bool true))] rfl ⟨?_, ?_, ?_, ?_, ?_, ?_, ?_, ?_, ?_, ?_, ?_, trivial⟩ _ rfl ⟨?_, ?_, ?_, ?_, ?_, ?_, ?_, ?_, ?_, ?_, ?_, trivial⟩ ?_
     iterate 11 exact Stable.is _ _
     ·intro x wx ox hN TT HTT; unfold StepTo; simp only [putAll, Act.put, zA, zB, zC]; clear hN
      go_wp2_with fail
      exact ⟨rfl, _, rfl, HTT.out _ _ rfl oR⟩
     ·intro x wx ox hN TT HTT; unfold StepTo; simp only [putAll, Act.put, zA, zB, zC, eI (hN.1 rfl)]; clear hN; obtain ⟨m1, m2, m3, m4, m5, m6, m7, m8, m9, m10, m11, m12⟩ := HX.out wx ox
      go_wp2_with fail
      exact ⟨rfl, _, rfl, HTT.out _ _ rfl oR⟩
     ·intro x wx ox hN TT HTT; unfold StepTo; simp only [putAll, Act.put, zA, zB, zC]; clear hN
      go_wp2_with fail
      exact ⟨rfl, _, rfl, HTT.out _ _ rfl oR⟩
     ·intro x wx ox hN TT HTT; unfold StepTo; simp only [putAll, Act.put, zA, zB, zC, eI (hN.1 rfl), eI (hN.2.1 rfl)]; clear hN
      go_wp2_with fail
      exact ⟨rfl, _, rfl, HTT.out _ _ rfl oR⟩
     ·intro x wx ox hN TT HTT; unfold StepTo; simp only [putAll, Act.put, zA, zB, zC, eI (hN.1 rfl)]; clear hN; obtain ⟨m1, m2, m3, m4, m5, m6, m7, m8, m9, m10, m11, m12⟩ := HX.out wx ox
      go_wp2_with fail
      exact ⟨rfl, _, rfl, HTT.out _ _ rfl oR⟩
     ·intro x wx ox hN TT HTT; unfold StepTo; simp only [putAll, Act.put, zA, zB, zC]; clear hN
      go_wp2_with fail
      exact ⟨rfl, _, rfl, HTT.out _ _ rfl oR⟩
     ·intro x wx ox hN TT HTT; unfold StepTo; simp only [putAll, Act.put, zA, zB, zC, eI (hN.1 rfl)]; clear hN; obtain ⟨m1, m2, m3, m4, m5, m6, m7, m8, m9, m10, m11, m12⟩ := HX.out wx ox
      go_wp2_with fail
      exact ⟨rfl, _, rfl, HTT.out _ _ rfl oR⟩
     ·intro x wx ox hN TT HTT; unfold StepTo; simp only [putAll, Act.put, zA, zB, zC]; clear hN
      go_wp2_with fail
      exact ⟨rfl, _, rfl, HTT.out _ _ rfl oR⟩
     ·intro x wx ox hN TT HTT; unfold StepTo; simp only [putAll, Act.put, zA, zB, zC, eI (hN.1 rfl), eI (hN.2.1 rfl)]; clear hN
      go_wp2_with fail
      exact ⟨rfl, _, rfl, HTT.out _ _ rfl oR⟩
     ·intro x wx ox hN TT HTT; unfold StepTo; simp only [putAll, Act.put, zA, zB, zC, eI (hN.1 rfl)]; clear hN; obtain ⟨m1, m2, m3, m4, m5, m6, m7, m8, m9, m10, m11, m12⟩ := HX.out wx ox
      go_wp2_with fail
      exact ⟨rfl, _, rfl, HTT.out _ _ rfl oR⟩
     ·intro x wx ox hN TT HTT; unfold StepTo; simp only [putAll, Act.put, zA, zB, zC, eI (hN.1 rfl), eI (hN.2.1 rfl)]; clear hN; have ht := HREC.out wx ox; have HT := hid ht; clear ht
      go_wp2_with fail
      refine HT.out.mono ?_
      rintro e w6 ⟨rfl, o6⟩; have O6 := hid o6; clear o6
      go_wp2_with fail
      exact ⟨rfl, _, rfl, HTT.out _ _ rfl (O6.out)⟩
     intro xz wxz oxz hN; simp only [putAll, Act.put, zA, zB, zC, eI hN.1, eI hN.2.1, eI hN.2.2.1, eI hN.2.2.2.1, eI hN.2.2.2.2.1, eI hN.2.2.2.2.2.1, eI hN.2.2.2.2.2.2.1, eI hN.2.2.2.2.2.2.2.1, eI hN.2.2.2.2.2.2.2.2.1, eI hN.2.2.2.2.2.2.2.2.2.1, eI hN.2.2.2.2.2.2.2.2.2.2.1]; clear hN; have OZ := hid (HO.out.trans ((Only.refl _ wr).drew.trans oxz)); clear oxz
     go_wp2_with fail
     go_roundw
     case rel => exact ⟨j + 1, by simp [go_sem], by omega, OZ⟩
     case measure => simp [intOf]; omega
    ·have hke : j = lv := by omega
     subst hke; have t4 : decide ((j : Int) < (j : Int)) = false := by simp
     go_wp2_with fail
     clear c4 d4
     go_ret
     exact ⟨rfl, HOB.out.trans HO.out⟩
theorem sameV_all : ∀ z, SameV z
 | 0 => fun t ht => by exfalso; obtain ⟨k, n, s, ks, vs⟩ := t; simp only [VT.mk.sizeOf_spec] at ht; omega
 | z + 1 => sameV_step z (sameV_all z)
theorem sameV_true (t : VT) {G G' : Nat → Prop} {w : World} {cs ds : List Value} (h : CellsAt w G (valC t) cs) (h' : CellsAt w G' (valC t) ds) : Calls Tryz.prog 52 #[.agg cs.toArray, .agg ds.toArray] w (fun e w' => e = .returned (.bool true) ∧ Only (fun _ => False) w w') :=
 sameV_all _ t (Nat.le_refl _) G G' w cs ds h h'
end Go.Proofs.YtnkpoddbbdmipaaGreatDoor
