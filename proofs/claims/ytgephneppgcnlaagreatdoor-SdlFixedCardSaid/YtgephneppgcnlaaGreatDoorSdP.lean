/- Declarations, in plain Lean: trees, and how tokens are read as declarations; what is read takes tokens. -/
import Derived.Test.YtgephneppgcnlaaGreatDoorPrA
namespace Go.Proofs.YtgephneppgcnlaaGreatDoor
set_option linter.unusedVariables false
set_option linter.unusedSimpArgs false

/-- An input, or an argument. -/
structure IN where
  name : List UInt8
  t : TR
  has : Bool
  v : VT
structure FD where
  name : List UInt8
  args : List IN
  t : TR
  has : Bool
  v : VT
def FD.of (i : IN) : FD := ⟨i.name, [], i.t, i.has, i.v⟩
structure TD where
  kind : Nat
  name : List UInt8
  fields : List FD
  names : List (List UInt8)
def wType : List UInt8 := [116, 121, 112, 101]
def wInterface : List UInt8 := [105, 110, 116, 101, 114, 102, 97, 99, 101]
def wUnion : List UInt8 := [117, 110, 105, 111, 110]
def wEnum : List UInt8 := [101, 110, 117, 109]
def wInput : List UInt8 := [105, 110, 112, 117, 116]
def wImplements : List UInt8 := [105, 109, 112, 108, 101, 109, 101, 110, 116, 115]
def inP (r : List Tok) : PR IN := (nameP r).bind fun s r1 => (wantP [58] r1).bind fun _ r2 => (typP 24 r2).bind fun t r3 =>
  if isT [61] r3 then (valueP true 24 r3.tail).bind fun v r4 => .ok ⟨s, t, true, v⟩ r4 else .ok ⟨s, t, false, VT.zero⟩ r3
def fdP (r : List Tok) : PR FD := (nameP r).bind fun s r1 => (if isT [40] r1 then manyP inP [41] (r1.length + 1) [] r1.tail else .ok [] r1).bind fun gs r2 =>
  (wantP [58] r2).bind fun _ r3 => (typP 24 r3).bind fun t r4 => .ok ⟨s, gs, t, false, VT.zero⟩ r4
def plainP (r : List Tok) : PR (List UInt8) := if isT wTrue r || isT wFalse r || isT wNull r then .bad (atT r) 4 else nameP r
def moreP (sign : List UInt8) : Nat → List (List UInt8) → List Tok → PR (List (List UInt8))
  | 0, _, r => .bad (atT r) 4
  | n + 1, acc, r => if isT sign r then (nameP r.tail).bind fun s r1 => moreP sign n (acc ++ [s]) r1 else .ok acc r
def namesP (sign : List UInt8) (r : List Tok) : PR (List (List UInt8)) := (nameP (if isT sign r then r.tail else r)).bind fun s r1 => moreP sign (r1.length + 1) [s] r1
def unionP (s : List UInt8) (r : List Tok) : PR TD := (wantP [61] r).bind fun _ r1 => (namesP [124] r1).bind fun l r2 => .ok ⟨3, s, [], l⟩ r2
def enumP (s : List UInt8) (r : List Tok) : PR TD := (wantP [123] r).bind fun _ r1 => (manyP plainP [125] (r1.length + 1) [] r1).bind fun l r2 => .ok ⟨4, s, [], l⟩ r2
def inputP (s : List UInt8) (r : List Tok) : PR TD := (wantP [123] r).bind fun _ r1 => (manyP inP [125] (r1.length + 1) [] r1).bind fun l r2 => .ok ⟨5, s, l.map FD.of, []⟩ r2
def objP (k : Nat) (s : List UInt8) (l : List (List UInt8)) (r : List Tok) : PR TD := (wantP [123] r).bind fun _ r1 => (manyP fdP [125] (r1.length + 1) [] r1).bind fun fs r2 => .ok ⟨k, s, fs, l⟩ r2
def bodyP (k : Nat) (s : List UInt8) (r : List Tok) : PR TD :=
  if k = 3 then unionP s r else if k = 4 then enumP s r else if k = 5 then inputP s r
  else if decide (k = 1) && isT wImplements r then (namesP [38] r.tail).bind fun l r1 => objP k s l r1 else objP k s [] r
def kindN (r : List Tok) : Nat := if isT wType r then 1 else if isT wInterface r then 2 else if isT wUnion r then 3 else if isT wEnum r then 4 else if isT wInput r then 5 else 0
def tdP (r : List Tok) : PR TD := if kindN r = 0 then .bad (atT r) 4 else (nameP r.tail).bind fun s r1 => bodyP (kindN r) s r1
def tysF : Nat → List TD → List Tok → PR (List TD)
  | 0, _, r => .bad (atT r) 4
  | n + 1, acc, r => (tdP r).bind fun t r1 => if isK 0 r1 then .ok (acc ++ [t]) r1 else tysF n (acc ++ [t]) r1
inductive TR1 where
  | ok (d : List TD)
  | bad (a e : Nat)
/-- The declarations of a text. -/
def tysP (s : List UInt8) : TR1 := match toks s with
  | .bad a e => .bad a e
  | .ok ts => match tysF (ts.length + 1) [] ts with
    | .ok d _ => .ok d
    | .bad a e => .bad a e
/-! ### What is read takes tokens -/
theorem inP_takes : Takes inP := fun r x r1 h => by
  unfold inP at h
  obtain ⟨s, r2, h1, h⟩ := bind_inv h
  obtain ⟨u, r3, h3, h⟩ := bind_inv h
  obtain ⟨t, r4, h4, h⟩ := bind_inv h
  have := nameP_len h1; have := wantP_len h3; have := typP_takes _ _ _ _ h4
  split at h
  · rename_i hs
    obtain ⟨v, r5, h5, h⟩ := bind_inv h
    injection h with _ h; subst h
    have := isT_len hs; have := valueP_takes _ _ _ _ _ h5
    omega
  · injection h with _ h; subst h; omega
theorem fdP_takes : Takes fdP := fun r x r1 h => by
  unfold fdP at h
  obtain ⟨s, r2, h1, h⟩ := bind_inv h
  obtain ⟨gs, r3, h3, h⟩ := bind_inv h
  obtain ⟨u, r4, h4, h⟩ := bind_inv h
  obtain ⟨t, r5, h5, h⟩ := bind_inv h
  injection h with _ h; subst h
  have hl : r3.length ≤ r2.length := by
    split at h3
    · rename_i hs
      have := isT_len hs; have := manyP_len inP_takes _ _ _ _ _ h3
      omega
    · injection h3 with _ h3; subst h3; exact Nat.le_refl _
  have := nameP_len h1; have := wantP_len h4; have := typP_takes _ _ _ _ h5
  omega
theorem nameP_takes : Takes nameP := fun _ _ _ h => nameP_len h
theorem plainP_takes : Takes plainP := fun r x r1 h => by
  unfold plainP at h
  split at h
  · cases h
  · exact nameP_len h
theorem moreP_len (sign : List UInt8) : ∀ (n : Nat) (acc : List (List UInt8)) (r : List Tok) (l : List (List UInt8)) (r1 : List Tok), moreP sign n acc r = .ok l r1 → r1.length ≤ r.length
  | 0, _, _, _, _, h => by cases h
  | n + 1, acc, r, l, r1, h => by
    rw [moreP] at h
    split at h
    · rename_i hs
      obtain ⟨x, r2, h1, h⟩ := bind_inv h
      have := isT_len hs; have := nameP_len h1; have := moreP_len sign n _ _ _ _ h
      omega
    · injection h with _ h; subst h; exact Nat.le_refl _
theorem moreP_fuel (sign : List UInt8) : ∀ (n m : Nat) (acc : List (List UInt8)) (r : List Tok), r.length < n → r.length < m → moreP sign n acc r = moreP sign m acc r
  | 0, _, _, _, h, _ => by omega
  | _, 0, _, _, _, h => by omega
  | n + 1, m + 1, acc, r, h1, h2 => by
    rw [moreP, moreP]
    by_cases hb : isT sign r = true
    · rw [if_pos hb, if_pos hb]
      have h0 := isT_len hb
      cases hq : nameP r.tail with
      | bad a e => rfl
      | ok x r1 =>
        have := nameP_len hq
        show moreP sign n (acc ++ [x]) r1 = moreP sign m (acc ++ [x]) r1
        exact moreP_fuel sign n m (acc ++ [x]) r1 (by omega) (by omega)
    · rw [if_neg hb, if_neg hb]
theorem namesP_takes (sign : List UInt8) : Takes (namesP sign) := fun r x r1 h => by
  unfold namesP at h
  obtain ⟨s, r2, h1, h⟩ := bind_inv h
  have k1 := nameP_len h1; have k2 := moreP_len sign _ _ _ _ _ h
  split at k1
  · rename_i hs
    have := isT_len hs; omega
  · omega
theorem objP_takes (k : Nat) (s : List UInt8) (l : List (List UInt8)) : Takes (objP k s l) := fun r x r1 h => by
  unfold objP at h
  obtain ⟨u, r2, h1, h⟩ := bind_inv h
  obtain ⟨fs, r3, h3, h⟩ := bind_inv h
  injection h with _ h; subst h
  have := wantP_len h1; have := manyP_len fdP_takes _ _ _ _ _ h3
  omega
theorem bodyP_takes (k : Nat) (s : List UInt8) : Takes (bodyP k s) := fun r x r1 h => by
  unfold bodyP at h
  split at h
  · unfold unionP at h
    obtain ⟨u, r2, h1, h⟩ := bind_inv h
    obtain ⟨fs, r3, h3, h⟩ := bind_inv h
    injection h with _ h; subst h
    have := wantP_len h1; have := namesP_takes _ _ _ _ h3
    omega
  · split at h
    · unfold enumP at h
      obtain ⟨u, r2, h1, h⟩ := bind_inv h
      obtain ⟨fs, r3, h3, h⟩ := bind_inv h
      injection h with _ h; subst h
      have := wantP_len h1; have := manyP_len plainP_takes _ _ _ _ _ h3
      omega
    · split at h
      · unfold inputP at h
        obtain ⟨u, r2, h1, h⟩ := bind_inv h
        obtain ⟨fs, r3, h3, h⟩ := bind_inv h
        injection h with _ h; subst h
        have := wantP_len h1; have := manyP_len inP_takes _ _ _ _ _ h3
        omega
      · split at h
        · rename_i hs
          rw [Bool.and_eq_true] at hs
          obtain ⟨l, r2, h1, h⟩ := bind_inv h
          have := isT_len hs.2; have := namesP_takes _ _ _ _ h1; have := objP_takes _ _ _ _ _ _ h
          omega
        · exact objP_takes _ _ _ _ _ _ h
theorem kindN_len {r : List Tok} (h : kindN r ≠ 0) : r.tail.length < r.length := by
  cases r with
  | nil => exact absurd rfl h
  | cons t r => simp
theorem tdP_takes : Takes tdP := fun r x r1 h => by
  unfold tdP at h
  split at h
  · cases h
  · rename_i hk
    obtain ⟨s, r2, h1, h⟩ := bind_inv h
    have := kindN_len hk; have := nameP_len h1; have := bodyP_takes _ _ _ _ _ h
    omega
theorem tysF_few : ∀ (n : Nat) (acc : List TD) (r : List Tok) (d : List TD) (r1 : List Tok), tysF n acc r = .ok d r1 → d.length + r1.length ≤ acc.length + r.length
  | 0, _, _, _, _, h => by cases h
  | n + 1, acc, r, d, r1, h => by
    rw [tysF] at h
    obtain ⟨t, r2, h1, h⟩ := bind_inv h
    have h2 := tdP_takes _ _ _ h1
    split at h
    · injection h with h3 h4; subst h3; subst h4; simp only [List.length_append, List.length_singleton]; omega
    · have h3 := tysF_few n _ _ _ _ h; simp only [List.length_append, List.length_singleton] at h3; omega
theorem tysF_fuel : ∀ (n m : Nat) (acc : List TD) (r : List Tok), r.length < n → r.length < m → tysF n acc r = tysF m acc r
  | 0, _, _, _, h, _ => by omega
  | _, 0, _, _, _, h => by omega
  | n + 1, m + 1, acc, r, h1, h2 => by
    rw [tysF, tysF]
    cases hq : tdP r with
    | bad a e => rfl
    | ok x r1 =>
      have := tdP_takes r x r1 hq
      show (if isK 0 r1 then PR.ok (acc ++ [x]) r1 else tysF n (acc ++ [x]) r1) = (if isK 0 r1 then PR.ok (acc ++ [x]) r1 else tysF m (acc ++ [x]) r1)
      rw [tysF_fuel n m (acc ++ [x]) r1 (by omega) (by omega)]
end Go.Proofs.YtgephneppgcnlaaGreatDoor
