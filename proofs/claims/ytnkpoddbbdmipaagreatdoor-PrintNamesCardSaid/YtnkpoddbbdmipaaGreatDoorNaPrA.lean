/- Documents, in plain Lean: trees, and how tokens are read as trees. Documents, in plain Lean: what is read takes tokens. Documents, in plain Lean: what is read takes tokens; how much fuel is no matter. Documents, in plain Lean: a fault has a number. -/
import Derived.Test.YtnkpoddbbdmipaaGreatDoorNaTkA
namespace Go.Proofs.YtnkpoddbbdmipaaGreatDoor
set_option linter.unusedVariables false
set_option linter.unusedSimpArgs false

inductive VT where
  | mk (k : Nat) (n : Int) (s : List UInt8) (ks : List (List UInt8)) (vs : List VT)
def VT.zero : VT := .mk 0 0 [] [] []
inductive TR where
  | nm (s : List UInt8) (bang : Bool)
  | ls (t : TR) (bang : Bool)
structure AR where
  name : List UInt8
  v : VT
structure DR where
  name : List UInt8
  args : List AR
inductive SL where
  | mk (kind : Nat) (al name on_ : List UInt8) (args : List AR) (dirs : List DR) (sub : List SL)
structure VD where
  name : List UInt8
  t : TR
  has : Bool
  v : VT
structure OP where
  mut_ : Bool
  name : List UInt8
  vars : List VD
  sub : List SL
structure FR where
  name : List UInt8
  on_ : List UInt8
  sub : List SL
structure DC where
  ops : List OP
  frags : List FR
/-- What reading comes to: a thing and the tokens behind it; or the place at fault, and the error. -/
inductive PR (α : Type) where
  | ok (x : α) (r : List Tok)
  | bad (a e : Nat)
def PR.bind {α β : Type} (p : PR α) (f : α → List Tok → PR β) : PR β := match p with | .ok x r => f x r | .bad a e => .bad a e
def atT (r : List Tok) : Nat := match r with | [] => 0 | t :: _ => t.at_
def isK (k : Nat) (r : List Tok) : Bool := match r with | [] => false | t :: _ => decide (t.kind = k)
def isS (s : List UInt8) (r : List Tok) : Bool := match r with | [] => false | t :: _ => decide (t.kind = 4) && decide (t.text = s)
def isW (s : List UInt8) (r : List Tok) : Bool := match r with | [] => false | t :: _ => decide (t.kind = 1) && decide (t.text = s)
def isT (s : List UInt8) (r : List Tok) : Bool := isS s r || isW s r
def wantP (s : List UInt8) (r : List Tok) : PR Unit := if isT s r then .ok () r.tail else .bad (atT r) 4
def nameP (r : List Tok) : PR (List UInt8) := match r with | [] => .bad 0 4 | t :: r' => if t.kind = 1 then .ok t.text r' else .bad t.at_ 4
/-- Things up to a sign, at least one. -/
def manyP {α : Type} (f : List Tok → PR α) (close : List UInt8) : Nat → List α → List Tok → PR (List α)
  | 0, _, r => .bad (atT r) 4
  | n + 1, acc, r => (f r).bind fun x r1 => if isT close r1 then .ok (acc ++ [x]) r1.tail else manyP f close n (acc ++ [x]) r1
/-- Things up to a sign, or none. -/
def anyP {α : Type} (f : List Tok → PR α) (close : List UInt8) : Nat → List α → List Tok → PR (List α)
  | 0, _, r => .bad (atT r) 4
  | n + 1, acc, r => if isT close r then .ok acc r.tail else (f r).bind fun x r1 => anyP f close n (acc ++ [x]) r1
def pairP (f : List Tok → PR VT) (r : List Tok) : PR (List UInt8 × VT) := (nameP r).bind fun s r1 => (wantP [58] r1).bind fun _ r2 => (f r2).bind fun v r3 => .ok (s, v) r3
def wTrue : List UInt8 := [116, 114, 117, 101]
def wFalse : List UInt8 := [102, 97, 108, 115, 101]
def wNull : List UInt8 := [110, 117, 108, 108]
/-- A value that is open already: what stands within it is read by f. -/
def valueB (fixed : Bool) (f : List Tok → PR VT) : List Tok → PR VT
  | [] => .bad 0 4
  | t :: r =>
    if t.kind = 2 then .ok (.mk 1 t.n [] [] []) r
    else if t.kind = 3 then .ok (.mk 2 0 t.text [] []) r
    else if isT wTrue (t :: r) then .ok (.mk 3 1 [] [] []) r
    else if isT wFalse (t :: r) then .ok (.mk 3 0 [] [] []) r
    else if isT wNull (t :: r) then .ok VT.zero r
    else if t.kind = 1 then .ok (.mk 4 0 t.text [] []) r
    else if !fixed && isT [36] (t :: r) then (nameP r).bind fun s r1 => .ok (.mk 7 0 s [] []) r1
    else if isT [91] (t :: r) then (anyP f [93] (r.length + 1) [] r).bind fun vs r1 => .ok (.mk 5 0 [] [] vs) r1
    else if isT [123] (t :: r) then (anyP (pairP f) [125] (r.length + 1) [] r).bind fun ps r1 => .ok (.mk 6 0 [] (ps.map (·.1)) (ps.map (·.2))) r1
    else .bad t.at_ 4
def valueP (fixed : Bool) : Nat → List Tok → PR VT
  | 0, r => .bad (atT r) 5
  | d + 1, r => valueB fixed (valueP fixed d) r
def bangP (mk : Bool → TR) (r : List Tok) : PR TR := if isT [33] r then .ok (mk true) r.tail else .ok (mk false) r
def typP : Nat → List Tok → PR TR
  | 0, r => .bad (atT r) 5
  | d + 1, r => if isT [91] r then (typP d r.tail).bind fun t r1 => (wantP [93] r1).bind fun _ r2 => bangP (.ls t) r2 else (nameP r).bind fun s r1 => bangP (.nm s) r1
end Go.Proofs.YtnkpoddbbdmipaaGreatDoor
namespace Go.Proofs.YtnkpoddbbdmipaaGreatDoor
set_option linter.unusedVariables false
set_option linter.unusedSimpArgs false

theorem bind_inv {α β : Type} {p : PR α} {f : α → List Tok → PR β} {y : β} {r : List Tok} (h : p.bind f = .ok y r) : ∃ x r1, p = .ok x r1 ∧ f x r1 = .ok y r := by
  cases p with
  | ok x r1 => exact ⟨x, r1, rfl, h⟩
  | bad a e => cases h
theorem isT_cons {s : List UInt8} {r : List Tok} (h : isT s r = true) : ∃ t r', r = t :: r' := by
  cases r with
  | nil => simp [isT, isS, isW] at h
  | cons t r' => exact ⟨t, r', rfl⟩
theorem isT_len {s : List UInt8} {r : List Tok} (h : isT s r = true) : r.tail.length < r.length := by
  obtain ⟨t, r', rfl⟩ := isT_cons h; simp
theorem nameP_len {r : List Tok} {s : List UInt8} {r1 : List Tok} (h : nameP r = .ok s r1) : r1.length < r.length := by
  cases r with
  | nil => cases h
  | cons t r' =>
    have h : (if t.kind = 1 then PR.ok t.text r' else PR.bad t.at_ 4) = .ok s r1 := h
    split at h
    · injection h with _ h; subst h; simp
    · cases h
theorem wantP_len {s : List UInt8} {r r1 : List Tok} {u : Unit} (h : wantP s r = .ok u r1) : r1.length < r.length := by
  unfold wantP at h
  split at h
  · rename_i hs
    injection h with _ h; subst h; exact isT_len hs
  · cases h
def Takes {α : Type} (f : List Tok → PR α) : Prop := ∀ r x r1, f r = .ok x r1 → r1.length < r.length
theorem anyP_len {α : Type} {f : List Tok → PR α} {close : List UInt8} (hf : Takes f) : ∀ (n : Nat) (acc : List α) (r : List Tok) (xs : List α) (r1 : List Tok), anyP f close n acc r = .ok xs r1 → r1.length < r.length
  | 0, _, _, _, _, h => by cases h
  | n + 1, acc, r, xs, r1, h => by
    rw [anyP] at h
    split at h
    · rename_i hs
      injection h with _ h; subst h; exact isT_len hs
    · obtain ⟨x, r2, h1, h2⟩ := bind_inv h
      have := hf _ _ _ h1
      have := anyP_len hf n _ _ _ _ h2
      omega
theorem manyP_len {α : Type} {f : List Tok → PR α} {close : List UInt8} (hf : Takes f) : ∀ (n : Nat) (acc : List α) (r : List Tok) (xs : List α) (r1 : List Tok), manyP f close n acc r = .ok xs r1 → r1.length < r.length
  | 0, _, _, _, _, h => by cases h
  | n + 1, acc, r, xs, r1, h => by
    rw [manyP] at h
    obtain ⟨x, r2, h1, h2⟩ := bind_inv h
    have h3 := hf _ _ _ h1
    split at h2
    · rename_i hs
      injection h2 with _ h2; subst h2
      have := isT_len hs; omega
    · have := manyP_len hf n _ _ _ _ h2
      omega
theorem pairP_takes {f : List Tok → PR VT} (hf : Takes f) : Takes (pairP f) := fun r x r1 h => by
  unfold pairP at h
  obtain ⟨s, r2, h1, h2⟩ := bind_inv h
  obtain ⟨u, r3, h3, h4⟩ := bind_inv h2
  obtain ⟨v, r4, h5, h6⟩ := bind_inv h4
  injection h6 with _ h6; subst h6
  have := nameP_len h1; have := wantP_len h3; have := hf _ _ _ h5
  omega
theorem valueB_takes {fixed : Bool} {f : List Tok → PR VT} (hf : Takes f) : Takes (valueB fixed f) := fun r x r1 h => by
  cases r with
  | nil => cases h
  | cons t r =>
    rw [show valueB fixed f (t :: r) = (if t.kind = 2 then .ok (.mk 1 t.n [] [] []) r
      else if t.kind = 3 then .ok (.mk 2 0 t.text [] []) r
      else if isT wTrue (t :: r) then .ok (.mk 3 1 [] [] []) r
      else if isT wFalse (t :: r) then .ok (.mk 3 0 [] [] []) r
      else if isT wNull (t :: r) then .ok VT.zero r
      else if t.kind = 1 then .ok (.mk 4 0 t.text [] []) r
      else if !fixed && isT [36] (t :: r) then (nameP r).bind fun s r1 => .ok (.mk 7 0 s [] []) r1
      else if isT [91] (t :: r) then (anyP f [93] (r.length + 1) [] r).bind fun vs r1 => .ok (.mk 5 0 [] [] vs) r1
      else if isT [123] (t :: r) then (anyP (pairP f) [125] (r.length + 1) [] r).bind fun ps r1 => .ok (.mk 6 0 [] (ps.map (·.1)) (ps.map (·.2))) r1
      else .bad t.at_ 4) from rfl] at h
    simp only [List.length_cons]
    repeat' split at h
    all_goals first
      | (injection h with _ h; subst h; omega)
      | (cases h; done)
      | (obtain ⟨s, r2, h1, h2⟩ := bind_inv h; injection h2 with _ h2; subst h2; first | (have := nameP_len h1; omega) | (have := anyP_len hf _ _ _ _ _ h1; omega) | (have := anyP_len (pairP_takes hf) _ _ _ _ _ h1; omega))
theorem valueP_takes (fixed : Bool) : ∀ d, Takes (valueP fixed d)
  | 0 => fun r x r1 h => by cases h
  | d + 1 => valueB_takes (valueP_takes fixed d)
theorem bangP_len {mk : Bool → TR} {r r1 : List Tok} {t : TR} (h : bangP mk r = .ok t r1) : r1.length ≤ r.length := by
  unfold bangP at h
  split at h
  · injection h with _ h; subst h; simp
  · injection h with _ h; subst h; exact Nat.le_refl _
theorem typP_takes : ∀ d, Takes (typP d)
  | 0 => fun r x r1 h => by cases h
  | d + 1 => fun r x r1 h => by
    rw [typP] at h
    split at h
    · rename_i hs
      obtain ⟨t, r2, h1, h2⟩ := bind_inv h
      obtain ⟨u, r3, h3, h4⟩ := bind_inv h2
      have := isT_len hs; have := typP_takes d _ _ _ h1; have := wantP_len h3; have := bangP_len h4
      omega
    · obtain ⟨s, r2, h1, h2⟩ := bind_inv h
      have := nameP_len h1; have := bangP_len h2
      omega
end Go.Proofs.YtnkpoddbbdmipaaGreatDoor
namespace Go.Proofs.YtnkpoddbbdmipaaGreatDoor
set_option linter.unusedVariables false
set_option linter.unusedSimpArgs false

theorem manyP_fuel {α : Type} {f : List Tok → PR α} (hf : Takes f) (close : List UInt8) : ∀ (n m : Nat) (acc : List α) (r : List Tok), r.length < n → r.length < m → manyP f close n acc r = manyP f close m acc r
  | 0, _, _, _, h, _ => by omega
  | _, 0, _, _, _, h => by omega
  | n + 1, m + 1, acc, r, h1, h2 => by
    rw [manyP, manyP]
    cases hq : f r with
    | bad a e => rfl
    | ok x r1 =>
      have := hf r x r1 hq
      show (if isT close r1 then PR.ok (acc ++ [x]) r1.tail else manyP f close n (acc ++ [x]) r1) = (if isT close r1 then PR.ok (acc ++ [x]) r1.tail else manyP f close m (acc ++ [x]) r1)
      rw [manyP_fuel hf close n m (acc ++ [x]) r1 (by omega) (by omega)]
theorem anyP_fuel {α : Type} {f : List Tok → PR α} (hf : Takes f) (close : List UInt8) : ∀ (n m : Nat) (acc : List α) (r : List Tok), r.length < n → r.length < m → anyP f close n acc r = anyP f close m acc r
  | 0, _, _, _, h, _ => by omega
  | _, 0, _, _, _, h => by omega
  | n + 1, m + 1, acc, r, h1, h2 => by
    rw [anyP, anyP]
    cases hq : f r with
    | bad a e => rfl
    | ok x r1 =>
      have := hf r x r1 hq
      show (if isT close r then PR.ok acc r.tail else anyP f close n (acc ++ [x]) r1) = (if isT close r then PR.ok acc r.tail else anyP f close m (acc ++ [x]) r1)
      rw [anyP_fuel hf close n m (acc ++ [x]) r1 (by omega) (by omega)]
end Go.Proofs.YtnkpoddbbdmipaaGreatDoor
namespace Go.Proofs.YtnkpoddbbdmipaaGreatDoor
set_option linter.unusedVariables false
set_option linter.unusedSimpArgs false

end Go.Proofs.YtnkpoddbbdmipaaGreatDoor
