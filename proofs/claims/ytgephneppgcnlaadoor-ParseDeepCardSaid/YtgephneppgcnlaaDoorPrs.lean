/- Documents, in plain Lean: trees, and how tokens are read as trees. -/
import Derived.Test.YtgephneppgcnlaaDoorTpj
namespace Go.Proofs.YtgephneppgcnlaaDoor
set_option linter.unusedVariables false
set_option linter.unusedSimpArgs false

inductive VT where
  | mk (k : Nat) (n : Int) (s : List UInt8) (ks : List (List UInt8)) (vs : List VT)
def VT.zero : VT := .mk 0 0 [] [] []
inductive TR where
  | nm (s : List UInt8) (bang : Bool)
  | ls (t : TR) (bang : Bool)
structure AR where
  name : List UInt8
  v : VT
structure DR where
  name : List UInt8
  args : List AR
inductive SL where
  | mk (kind : Nat) (al name on_ : List UInt8) (args : List AR) (dirs : List DR) (sub : List SL)
structure VD where
  name : List UInt8
  t : TR
  has : Bool
  v : VT
structure OP where
  mut_ : Bool
  name : List UInt8
  vars : List VD
  sub : List SL
structure FR where
  name : List UInt8
  on_ : List UInt8
  sub : List SL
structure DC where
  ops : List OP
  frags : List FR
/-- What reading comes to: a thing and the tokens behind it; or the place at fault, and the error. -/
inductive PR (α : Type) where
  | ok (x : α) (r : List Tok)
  | bad (a e : Nat)
def PR.bind {α β : Type} (p : PR α) (f : α → List Tok → PR β) : PR β := match p with | .ok x r => f x r | .bad a e => .bad a e
def atT (r : List Tok) : Nat := match r with | [] => 0 | t :: _ => t.at_
def isK (k : Nat) (r : List Tok) : Bool := match r with | [] => false | t :: _ => decide (t.kind = k)
def isS (s : List UInt8) (r : List Tok) : Bool := match r with | [] => false | t :: _ => decide (t.kind = 4) && decide (t.text = s)
def isW (s : List UInt8) (r : List Tok) : Bool := match r with | [] => false | t :: _ => decide (t.kind = 1) && decide (t.text = s)
def isT (s : List UInt8) (r : List Tok) : Bool := isS s r || isW s r
def wantP (s : List UInt8) (r : List Tok) : PR Unit := if isT s r then .ok () r.tail else .bad (atT r) 4
def nameP (r : List Tok) : PR (List UInt8) := match r with | [] => .bad 0 4 | t :: r' => if t.kind = 1 then .ok t.text r' else .bad t.at_ 4
/-- Things up to a sign, at least one. -/
def manyP {α : Type} (f : List Tok → PR α) (close : List UInt8) : Nat → List α → List Tok → PR (List α)
  | 0, _, r => .bad (atT r) 4
  | n + 1, acc, r => (f r).bind fun x r1 => if isT close r1 then .ok (acc ++ [x]) r1.tail else manyP f close n (acc ++ [x]) r1
/-- Things up to a sign, or none. -/
def anyP {α : Type} (f : List Tok → PR α) (close : List UInt8) : Nat → List α → List Tok → PR (List α)
  | 0, _, r => .bad (atT r) 4
  | n + 1, acc, r => if isT close r then .ok acc r.tail else (f r).bind fun x r1 => anyP f close n (acc ++ [x]) r1
def quot (s : List UInt8) : List UInt8 := s
def pairP (f : List Tok → PR VT) (r : List Tok) : PR (List UInt8 × VT) := (nameP r).bind fun s r1 => (wantP [58] r1).bind fun _ r2 => (f r2).bind fun v r3 => .ok (s, v) r3
def wTrue : List UInt8 := [116, 114, 117, 101]
def wFalse : List UInt8 := [102, 97, 108, 115, 101]
def wNull : List UInt8 := [110, 117, 108, 108]
def wOn : List UInt8 := [111, 110]
def wMutation : List UInt8 := [109, 117, 116, 97, 116, 105, 111, 110]
def wQuery : List UInt8 := [113, 117, 101, 114, 121]
def wFragment : List UInt8 := [102, 114, 97, 103, 109, 101, 110, 116]
def wDots : List UInt8 := [46, 46, 46]
/-- A value that is open already: what stands within it is read by f. -/
def valueB (fixed : Bool) (f : List Tok → PR VT) : List Tok → PR VT
  | [] => .bad 0 4
  | t :: r =>
    if t.kind = 2 then .ok (.mk 1 t.n [] [] []) r
    else if t.kind = 3 then .ok (.mk 2 0 t.text [] []) r
    else if isT wTrue (t :: r) then .ok (.mk 3 1 [] [] []) r
    else if isT wFalse (t :: r) then .ok (.mk 3 0 [] [] []) r
    else if isT wNull (t :: r) then .ok VT.zero r
    else if t.kind = 1 then .ok (.mk 4 0 t.text [] []) r
    else if !fixed && isT [36] (t :: r) then (nameP r).bind fun s r1 => .ok (.mk 7 0 s [] []) r1
    else if isT [91] (t :: r) then (anyP f [93] (r.length + 1) [] r).bind fun vs r1 => .ok (.mk 5 0 [] [] vs) r1
    else if isT [123] (t :: r) then (anyP (pairP f) [125] (r.length + 1) [] r).bind fun ps r1 => .ok (.mk 6 0 [] (ps.map (·.1)) (ps.map (·.2))) r1
    else .bad t.at_ 4
def valueP (fixed : Bool) : Nat → List Tok → PR VT
  | 0, r => .bad (atT r) 5
  | d + 1, r => valueB fixed (valueP fixed d) r
def bangP (mk : Bool → TR) (r : List Tok) : PR TR := if isT [33] r then .ok (mk true) r.tail else .ok (mk false) r
def typP : Nat → List Tok → PR TR
  | 0, r => .bad (atT r) 5
  | d + 1, r => if isT [91] r then (typP d r.tail).bind fun t r1 => (wantP [93] r1).bind fun _ r2 => bangP (.ls t) r2 else (nameP r).bind fun s r1 => bangP (.nm s) r1
def argP (d : Nat) (r : List Tok) : PR AR := (nameP r).bind fun s r1 => (wantP [58] r1).bind fun _ r2 => (valueP false d r2).bind fun v r3 => .ok ⟨s, v⟩ r3
def argsP (d : Nat) (r : List Tok) : PR (List AR) := if isS [40] r then manyP (argP d) [41] (r.length + 1) [] r.tail else .ok [] r
def dirP (d : Nat) (r : List Tok) : PR DR := (nameP r).bind fun s r1 => (argsP d r1).bind fun l r2 => .ok ⟨s, l⟩ r2
def dirsP (d : Nat) : Nat → List DR → List Tok → PR (List DR)
  | 0, _, r => .bad (atT r) 4
  | n + 1, acc, r => if isT [64] r then (dirP d r.tail).bind fun x r1 => dirsP d n (acc ++ [x]) r1 else .ok acc r
/-- A selection: sets within it are read by g. -/
def selP (d : Nat) (g : List Tok → PR (List SL)) (r : List Tok) : PR SL :=
  if isT wDots r then
    if isT wOn r.tail then (nameP r.tail.tail).bind fun s r1 => (dirsP d (r1.length + 1) [] r1).bind fun ds r2 => (g r2).bind fun sub r3 => .ok (.mk 3 [] [] s [] ds sub) r3
    else if isK 1 r.tail then (nameP r.tail).bind fun s r1 => (dirsP d (r1.length + 1) [] r1).bind fun ds r2 => .ok (.mk 2 [] s [] [] ds []) r2
    else (dirsP d (r.tail.length + 1) [] r.tail).bind fun ds r2 => (g r2).bind fun sub r3 => .ok (.mk 3 [] [] [] [] ds sub) r3
  else (nameP r).bind fun s r1 =>
    (if isT [58] r1 then (nameP r1.tail).bind fun s2 r2 => .ok (s, s2) r2 else .ok (([] : List UInt8), s) r1).bind fun p r2 =>
      (argsP d r2).bind fun as r3 => (dirsP d (r3.length + 1) [] r3).bind fun ds r4 =>
        (if isS [123] r4 then g r4 else .ok [] r4).bind fun sub r5 => .ok (.mk 1 p.1 p.2 [] as ds sub) r5
def setP : Nat → List Tok → PR (List SL)
  | 0, r => .bad (atT r) 5
  | d + 1, r => (wantP [123] r).bind fun _ r1 => manyP (selP d (setP d)) [125] (r1.length + 1) [] r1
def varP (r : List Tok) : PR VD := (wantP [36] r).bind fun _ r1 => (nameP r1).bind fun s r2 => (wantP [58] r2).bind fun _ r3 => (typP 24 r3).bind fun t r4 =>
  if isT [61] r4 then (valueP true 24 r4.tail).bind fun v r5 => .ok ⟨s, t, true, v⟩ r5 else .ok ⟨s, t, false, VT.zero⟩ r4
def opP (r : List Tok) : PR OP :=
  (if isT wMutation r then .ok true r.tail else (wantP wQuery r).bind fun _ r1 => .ok false r1).bind fun m r1 =>
    (if isK 1 r1 then nameP r1 else .ok [] r1).bind fun s r2 =>
      (if isS [40] r2 then manyP varP [41] (r2.length + 1) [] r2.tail else .ok [] r2).bind fun vs r3 => (setP 24 r3).bind fun sub r4 => .ok ⟨m, s, vs, sub⟩ r4
def fragP (r : List Tok) : PR FR := if isW wOn r then .bad (atT r) 4 else (nameP r).bind fun s r1 => (wantP wOn r1).bind fun _ r2 => (nameP r2).bind fun o r3 => (setP 24 r3).bind fun sub r4 => .ok ⟨s, o, sub⟩ r4
/-- One definition more. -/
def defP (d : DC) (r : List Tok) : PR DC :=
  if isS [123] r then (setP 24 r).bind fun sub r1 => .ok ⟨d.ops ++ [⟨false, [], [], sub⟩], d.frags⟩ r1
  else if isT wFragment r then (fragP r.tail).bind fun f r1 => .ok ⟨d.ops, d.frags ++ [f]⟩ r1
  else (opP r).bind fun o r1 => .ok ⟨d.ops ++ [o], d.frags⟩ r1
def docF : Nat → DC → List Tok → PR DC
  | 0, _, r => .bad (atT r) 4
  | n + 1, d, r => (defP d r).bind fun d1 r1 => if isK 0 r1 then .ok d1 r1 else docF n d1 r1
inductive DR1 where
  | ok (d : DC)
  | bad (a e : Nat)
/-- The document of a text. -/
def docP (s : List UInt8) : DR1 := match toks s with
  | .bad a e => .bad a e
  | .ok ts => match docF (ts.length + 1) ⟨[], []⟩ ts with
    | .ok d _ => .ok d
    | .bad a e => .bad a e
end Go.Proofs.YtgephneppgcnlaaDoor
