/- Types and values in memory: their cells. Over no program. -/
import Derived.Test.YtgephneppgcnlaaGreatDoorPrA
import Derived.Test.YtgephneppgcnlaaGreatDoorOwC
namespace Go.Proofs.YtgephneppgcnlaaGreatDoor
open Go Go.RowKit
set_option linter.unusedVariables false
set_option linter.unusedSimpArgs false

def strC (s : List UInt8) : Cell := .lit (.string ⟨s.toArray⟩)
def boolC (b : Bool) : Cell := .lit (.bool b)
def intC (k : IntKind) (n : Int) : Cell := .lit (.int k n)
def trC : TR → List Cell
  | .nm s b => [strC s, .row 3 [], boolC b]
  | .ls t b => [strC [], .row 3 [trC t], boolC b]
/-- A struct by value, whose parts lie behind B. -/
def aggP {α : Type} (B : Nat) (enc : α → List Cell) (w : World) (x : α) (v : Value) : Prop := ∃ cs, v = .agg cs.toArray ∧ CellsAt w (fun q => B ≤ q) (enc x) cs
theorem cells3 {w : World} {G : Nat → Prop} {a b c : Cell} {cs : List Value} (h : CellsAt w G [a, b, c] cs) : ∃ x y z, cs = [x, y, z] ∧ CellAt w G a x ∧ CellAt w G b y ∧ CellAt w G c z := by
  simp only [CellsAt] at h
  obtain ⟨x, _, rfl, h1, y, _, rfl, h2, z, _, rfl, h3, rfl⟩ := h
  exact ⟨x, y, z, rfl, h1, h2, h3⟩
theorem trC_form {w : World} {G : Nat → Prop} {t : TR} {cs : List Value} (h : CellsAt w G (trC t) cs) : ∃ x y z, cs = [x, y, z] ∧ x.oneCell' = true ∧ y.oneCell' = true ∧ z.oneCell' = true := by
  cases t with
  | nm s b => rw [trC] at h; obtain ⟨x, y, z, rfl, h1, h2, h3⟩ := cells3 h; exact ⟨x, y, z, rfl, h1.one, h2.one, h3.one⟩
  | ls t b => rw [trC] at h; obtain ⟨x, y, z, rfl, h1, h2, h3⟩ := cells3 h; exact ⟨x, y, z, rfl, h1.one, h2.one, h3.one⟩
theorem box3 {w : World} {b : Nat} {x0 x1 x2 : Value} {T : TypeId} (h : w.heap[b]? = some (.cells #[x0, x1, x2] T (0, 0))) :
    w.cell? ⟨b, 0, none⟩ = some x0 ∧ w.cell? ⟨b, 1, none⟩ = some x1 ∧ w.cell? ⟨b, 2, none⟩ = some x2 ∧ ∀ o, w.frozen? ⟨b, o, none⟩ = false := by
  refine ⟨?_, ?_, ?_, fun o => ?_⟩ <;> simp [World.cell?, World.frozen?, h]
theorem bind_ok {α β : Type} {p : PR α} {f : α → List Tok → PR β} {x : α} {r : List Tok} (h : p = .ok x r) : p.bind f = f x r := by rw [h]; rfl
theorem bind_bad {α β : Type} {p : PR α} {f : α → List Tok → PR β} {a e : Nat} (h : p = .bad a e) : p.bind f = .bad a e := by rw [h]; rfl
mutual
def valC : VT → List Cell
  | .mk k n s ks vs => [intC .u8 k, intC .i64 n, strC s, .row 1 (ks.map fun s => [strC s]), .row 5 (valCs vs)]
def valCs : List VT → List (List Cell)
  | [] => []
  | v :: vs => valC v :: valCs vs
end
theorem valueB_cons (fixed : Bool) (f : List Tok → PR VT) (t : Tok) (r : List Tok) : valueB fixed f (t :: r) =
    if t.kind = 2 then .ok (.mk 1 t.n [] [] []) r
    else if t.kind = 3 then .ok (.mk 2 0 t.text [] []) r
    else if isT wTrue (t :: r) then .ok (.mk 3 1 [] [] []) r
    else if isT wFalse (t :: r) then .ok (.mk 3 0 [] [] []) r
    else if isT wNull (t :: r) then .ok VT.zero r
    else if t.kind = 1 then .ok (.mk 4 0 t.text [] []) r
    else if !fixed && isT [36] (t :: r) then (nameP r).bind fun s r1 => .ok (.mk 7 0 s [] []) r1
    else if isT [91] (t :: r) then (anyP f [93] (r.length + 1) [] r).bind fun vs r1 => .ok (.mk 5 0 [] [] vs) r1
    else if isT [123] (t :: r) then (anyP (pairP f) [125] (r.length + 1) [] r).bind fun ps r1 => .ok (.mk 6 0 [] (ps.map (·.1)) (ps.map (·.2))) r1
    else .bad t.at_ 4 := rfl
theorem valCs_map : ∀ vs, valCs vs = vs.map valC
  | [] => by rw [valCs]; rfl
  | v :: vs => by rw [valCs, valCs_map vs]; rfl
theorem cells5 {w : World} {G : Nat → Prop} {a b c d e : Cell} {cs : List Value} (h : CellsAt w G [a, b, c, d, e] cs) : ∃ x y z u v, cs = [x, y, z, u, v] ∧ CellAt w G a x ∧ CellAt w G b y ∧ CellAt w G c z ∧ CellAt w G d u ∧ CellAt w G e v := by
  simp only [CellsAt] at h
  obtain ⟨x, _, rfl, h1, y, _, rfl, h2, z, _, rfl, h3, u, _, rfl, h4, v, _, rfl, h5, rfl⟩ := h
  exact ⟨x, y, z, u, v, rfl, h1, h2, h3, h4, h5⟩
theorem valC_form {w : World} {G : Nat → Prop} {t : VT} {cs : List Value} (h : CellsAt w G (valC t) cs) : ∃ x y z u v, cs = [x, y, z, u, v] ∧ x.oneCell' = true ∧ y.oneCell' = true ∧ z.oneCell' = true ∧ u.oneCell' = true ∧ v.oneCell' = true := by
  cases t with
  | mk k n s ks vs => rw [valC] at h; obtain ⟨x, y, z, u, v, rfl, h1, h2, h3, h4, h5⟩ := cells5 h; exact ⟨x, y, z, u, v, rfl, h1.one, h2.one, h3.one, h4.one, h5.one⟩
theorem valC_form2 {w : World} {G : Nat → Prop} {t : VT} {cs : List Value} (h : CellsAt w G (valC t) cs) : ∃ (k : Nat) (n : Int) (s : List UInt8) (a1 : Option Addr) (l1 e1 : Nat) (a2 : Option Addr) (l2 e2 : Nat), cs = [.int .u8 (k : Int), .int .i64 n, .string ⟨s.toArray⟩, .slice a1 l1 e1, .slice a2 l2 e2] := by
  cases t with
  | mk k n s ks vs =>
    rw [valC] at h
    obtain ⟨x, y, z, u, v, rfl, h1, h2, h3, h4, h5⟩ := cells5 h
    simp only [intC, strC, CellAt] at h1 h2 h3
    obtain ⟨a1, e1, rfl, -⟩ := h4.rows
    obtain ⟨a2, e2, rfl, -⟩ := h5.rows
    obtain ⟨rfl, -⟩ := h1; obtain ⟨rfl, -⟩ := h2; obtain ⟨rfl, -⟩ := h3
    exact ⟨k, n, s, a1, _, e1, a2, _, e2, rfl⟩
theorem box5 {w : World} {b : Nat} {x0 x1 x2 x3 x4 : Value} {T : TypeId} (h : w.heap[b]? = some (.cells #[x0, x1, x2, x3, x4] T (0, 0))) :
    w.cell? ⟨b, 0, none⟩ = some x0 ∧ w.cell? ⟨b, 1, none⟩ = some x1 ∧ w.cell? ⟨b, 2, none⟩ = some x2 ∧ w.cell? ⟨b, 3, none⟩ = some x3 ∧ w.cell? ⟨b, 4, none⟩ = some x4 ∧ ∀ o, w.frozen? ⟨b, o, none⟩ = false := by
  refine ⟨?_, ?_, ?_, ?_, ?_, fun o => ?_⟩ <;> simp [World.cell?, World.frozen?, h]
theorem leafC {w : World} {G : Nat → Prop} (k : Nat) (n : Int) (s : List UInt8) : CellsAt w G (valC (.mk k n s [] [])) [.int .u8 (k : Int), .int .i64 n, .string ⟨s.toArray⟩, .slice none 0 0, .slice none 0 0] := by
  rw [valC]
  exact CellsAt.lit rfl (CellsAt.lit rfl (CellsAt.lit rfl (CellsAt.cons (CellAt.nilRow _ _ _) (CellsAt.cons (by rw [valCs]; exact CellAt.nilRow _ _ _) (CellsAt.nil _ _)))))
theorem listC {w : World} {G : Nat → Prop} {vs : List VT} {v : Value} (h : CellAt w G (.row 5 (vs.map valC)) v) : CellsAt w G (valC (.mk 5 0 [] [] vs)) [.int .u8 5, .int .i64 0, .string ⟨#[]⟩, .slice none 0 0, v] := by
  rw [valC]
  exact CellsAt.lit rfl (CellsAt.lit rfl (CellsAt.lit rfl (CellsAt.cons (CellAt.nilRow _ _ _) (CellsAt.cons (by rw [valCs_map]; exact h) (CellsAt.nil _ _)))))
theorem objC {w : World} {G : Nat → Prop} {ps : List (List UInt8 × VT)} {u v : Value} (hk : CellAt w G (.row 1 (ps.map fun p => [strC p.1])) u) (h : CellAt w G (.row 5 (ps.map fun p => valC p.2)) v) : CellsAt w G (valC (.mk 6 0 [] (ps.map (·.1)) (ps.map (·.2)))) [.int .u8 6, .int .i64 0, .string ⟨#[]⟩, u, v] := by
  rw [valC]
  exact CellsAt.lit rfl (CellsAt.lit rfl (CellsAt.lit rfl (CellsAt.cons (by rw [List.map_map]; exact hk) (CellsAt.cons (by rw [valCs_map, List.map_map]; exact h) (CellsAt.nil _ _)))))
end Go.Proofs.YtgephneppgcnlaaGreatDoor
