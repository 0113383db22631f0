/- Documents, in plain Lean: what is read takes tokens. -/
import Derived.Test.YtgephneppgcnlaaDoorPrs
namespace Go.Proofs.YtgephneppgcnlaaDoor
set_option linter.unusedVariables false
set_option linter.unusedSimpArgs false

theorem bind_inv {α β : Type} {p : PR α} {f : α → List Tok → PR β} {y : β} {r : List Tok} (h : p.bind f = .ok y r) : ∃ x r1, p = .ok x r1 ∧ f x r1 = .ok y r := by
  cases p with
  | ok x r1 => exact ⟨x, r1, rfl, h⟩
  | bad a e => cases h
theorem isT_cons {s : List UInt8} {r : List Tok} (h : isT s r = true) : ∃ t r', r = t :: r' := by
  cases r with
  | nil => simp [isT, isS, isW] at h
  | cons t r' => exact ⟨t, r', rfl⟩
theorem isS_cons {s : List UInt8} {r : List Tok} (h : isS s r = true) : ∃ t r', r = t :: r' := by
  cases r with
  | nil => simp [isS] at h
  | cons t r' => exact ⟨t, r', rfl⟩
theorem isT_len {s : List UInt8} {r : List Tok} (h : isT s r = true) : r.tail.length < r.length := by
  obtain ⟨t, r', rfl⟩ := isT_cons h; simp
theorem nameP_len {r : List Tok} {s : List UInt8} {r1 : List Tok} (h : nameP r = .ok s r1) : r1.length < r.length := by
  cases r with
  | nil => cases h
  | cons t r' =>
    have h : (if t.kind = 1 then PR.ok t.text r' else PR.bad t.at_ 4) = .ok s r1 := h
    split at h
    · injection h with _ h; subst h; simp
    · cases h
theorem wantP_len {s : List UInt8} {r r1 : List Tok} {u : Unit} (h : wantP s r = .ok u r1) : r1.length < r.length := by
  unfold wantP at h
  split at h
  · rename_i hs
    injection h with _ h; subst h; exact isT_len hs
  · cases h
def Takes {α : Type} (f : List Tok → PR α) : Prop := ∀ r x r1, f r = .ok x r1 → r1.length < r.length
theorem anyP_len {α : Type} {f : List Tok → PR α} {close : List UInt8} (hf : Takes f) : ∀ (n : Nat) (acc : List α) (r : List Tok) (xs : List α) (r1 : List Tok), anyP f close n acc r = .ok xs r1 → r1.length < r.length
  | 0, _, _, _, _, h => by cases h
  | n + 1, acc, r, xs, r1, h => by
    rw [anyP] at h
    split at h
    · rename_i hs
      injection h with _ h; subst h; exact isT_len hs
    · obtain ⟨x, r2, h1, h2⟩ := bind_inv h
      have := hf _ _ _ h1
      have := anyP_len hf n _ _ _ _ h2
      omega
theorem manyP_len {α : Type} {f : List Tok → PR α} {close : List UInt8} (hf : Takes f) : ∀ (n : Nat) (acc : List α) (r : List Tok) (xs : List α) (r1 : List Tok), manyP f close n acc r = .ok xs r1 → r1.length < r.length
  | 0, _, _, _, _, h => by cases h
  | n + 1, acc, r, xs, r1, h => by
    rw [manyP] at h
    obtain ⟨x, r2, h1, h2⟩ := bind_inv h
    have h3 := hf _ _ _ h1
    split at h2
    · rename_i hs
      injection h2 with _ h2; subst h2
      have := isT_len hs; omega
    · have := manyP_len hf n _ _ _ _ h2
      omega
theorem pairP_takes {f : List Tok → PR VT} (hf : Takes f) : Takes (pairP f) := fun r x r1 h => by
  unfold pairP at h
  obtain ⟨s, r2, h1, h2⟩ := bind_inv h
  obtain ⟨u, r3, h3, h4⟩ := bind_inv h2
  obtain ⟨v, r4, h5, h6⟩ := bind_inv h4
  injection h6 with _ h6; subst h6
  have := nameP_len h1; have := wantP_len h3; have := hf _ _ _ h5
  omega
theorem valueB_takes {fixed : Bool} {f : List Tok → PR VT} (hf : Takes f) : Takes (valueB fixed f) := fun r x r1 h => by
  cases r with
  | nil => cases h
  | cons t r =>
    rw [show valueB fixed f (t :: r) = (if t.kind = 2 then .ok (.mk 1 t.n [] [] []) r
      else if t.kind = 3 then .ok (.mk 2 0 t.text [] []) r
      else if isT wTrue (t :: r) then .ok (.mk 3 1 [] [] []) r
      else if isT wFalse (t :: r) then .ok (.mk 3 0 [] [] []) r
      else if isT wNull (t :: r) then .ok VT.zero r
      else if t.kind = 1 then .ok (.mk 4 0 t.text [] []) r
      else if !fixed && isT [36] (t :: r) then (nameP r).bind fun s r1 => .ok (.mk 7 0 s [] []) r1
      else if isT [91] (t :: r) then (anyP f [93] (r.length + 1) [] r).bind fun vs r1 => .ok (.mk 5 0 [] [] vs) r1
      else if isT [123] (t :: r) then (anyP (pairP f) [125] (r.length + 1) [] r).bind fun ps r1 => .ok (.mk 6 0 [] (ps.map (·.1)) (ps.map (·.2))) r1
      else .bad t.at_ 4) from rfl] at h
    simp only [List.length_cons]
    repeat' split at h
    all_goals first
      | (injection h with _ h; subst h; omega)
      | (cases h; done)
      | (obtain ⟨s, r2, h1, h2⟩ := bind_inv h; injection h2 with _ h2; subst h2; first | (have := nameP_len h1; omega) | (have := anyP_len hf _ _ _ _ _ h1; omega) | (have := anyP_len (pairP_takes hf) _ _ _ _ _ h1; omega))
theorem valueP_takes (fixed : Bool) : ∀ d, Takes (valueP fixed d)
  | 0 => fun r x r1 h => by cases h
  | d + 1 => valueB_takes (valueP_takes fixed d)
theorem bangP_len {mk : Bool → TR} {r r1 : List Tok} {t : TR} (h : bangP mk r = .ok t r1) : r1.length ≤ r.length := by
  unfold bangP at h
  split at h
  · injection h with _ h; subst h; simp
  · injection h with _ h; subst h; exact Nat.le_refl _
theorem typP_takes : ∀ d, Takes (typP d)
  | 0 => fun r x r1 h => by cases h
  | d + 1 => fun r x r1 h => by
    rw [typP] at h
    split at h
    · rename_i hs
      obtain ⟨t, r2, h1, h2⟩ := bind_inv h
      obtain ⟨u, r3, h3, h4⟩ := bind_inv h2
      have := isT_len hs; have := typP_takes d _ _ _ h1; have := wantP_len h3; have := bangP_len h4
      omega
    · obtain ⟨s, r2, h1, h2⟩ := bind_inv h
      have := nameP_len h1; have := bangP_len h2
      omega
theorem argP_takes (d : Nat) : Takes (argP d) := fun r x r1 h => by
  unfold argP at h
  obtain ⟨s, r2, h1, h2⟩ := bind_inv h
  obtain ⟨u, r3, h3, h4⟩ := bind_inv h2
  obtain ⟨v, r4, h5, h6⟩ := bind_inv h4
  injection h6 with _ h6; subst h6
  have := nameP_len h1; have := wantP_len h3; have := valueP_takes _ _ _ _ _ h5
  omega
theorem argsP_len {d : Nat} {r r1 : List Tok} {l : List AR} (h : argsP d r = .ok l r1) : r1.length ≤ r.length := by
  unfold argsP at h
  split at h
  · have := manyP_len (argP_takes d) _ _ _ _ _ h
    rw [List.length_tail] at this; omega
  · injection h with _ h; subst h; exact Nat.le_refl _
theorem dirP_takes (d : Nat) : Takes (dirP d) := fun r x r1 h => by
  unfold dirP at h
  obtain ⟨s, r2, h1, h2⟩ := bind_inv h
  obtain ⟨v, r4, h5, h6⟩ := bind_inv h2
  injection h6 with _ h6; subst h6
  have := nameP_len h1; have := argsP_len h5
  omega
theorem dirsP_len (d : Nat) : ∀ (n : Nat) (acc : List DR) (r : List Tok) (l : List DR) (r1 : List Tok), dirsP d n acc r = .ok l r1 → r1.length ≤ r.length
  | 0, _, _, _, _, h => by cases h
  | n + 1, acc, r, l, r1, h => by
    rw [dirsP] at h
    split at h
    · rename_i hs
      obtain ⟨x, r2, h1, h2⟩ := bind_inv h
      have := isT_len hs; have := dirP_takes d _ _ _ h1; have := dirsP_len d n _ _ _ _ h2
      omega
    · injection h with _ h; subst h; exact Nat.le_refl _
end Go.Proofs.YtgephneppgcnlaaDoor
