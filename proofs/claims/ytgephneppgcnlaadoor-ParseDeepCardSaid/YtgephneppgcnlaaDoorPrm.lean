/- Documents, in plain Lean: what is read takes tokens; how much fuel is no matter. -/
import Derived.Test.YtgephneppgcnlaaDoorPrl
namespace Go.Proofs.YtgephneppgcnlaaDoor
set_option linter.unusedVariables false
set_option linter.unusedSimpArgs false

theorem manyP_fuel {α : Type} {f : List Tok → PR α} (hf : Takes f) (close : List UInt8) : ∀ (n m : Nat) (acc : List α) (r : List Tok), r.length < n → r.length < m → manyP f close n acc r = manyP f close m acc r
  | 0, _, _, _, h, _ => by omega
  | _, 0, _, _, _, h => by omega
  | n + 1, m + 1, acc, r, h1, h2 => by
    rw [manyP, manyP]
    cases hq : f r with
    | bad a e => rfl
    | ok x r1 =>
      have := hf r x r1 hq
      show (if isT close r1 then PR.ok (acc ++ [x]) r1.tail else manyP f close n (acc ++ [x]) r1) = (if isT close r1 then PR.ok (acc ++ [x]) r1.tail else manyP f close m (acc ++ [x]) r1)
      rw [manyP_fuel hf close n m (acc ++ [x]) r1 (by omega) (by omega)]
theorem anyP_fuel {α : Type} {f : List Tok → PR α} (hf : Takes f) (close : List UInt8) : ∀ (n m : Nat) (acc : List α) (r : List Tok), r.length < n → r.length < m → anyP f close n acc r = anyP f close m acc r
  | 0, _, _, _, h, _ => by omega
  | _, 0, _, _, _, h => by omega
  | n + 1, m + 1, acc, r, h1, h2 => by
    rw [anyP, anyP]
    cases hq : f r with
    | bad a e => rfl
    | ok x r1 =>
      have := hf r x r1 hq
      show (if isT close r then PR.ok acc r.tail else anyP f close n (acc ++ [x]) r1) = (if isT close r then PR.ok acc r.tail else anyP f close m (acc ++ [x]) r1)
      rw [anyP_fuel hf close n m (acc ++ [x]) r1 (by omega) (by omega)]
theorem dirsP_fuel (d : Nat) : ∀ (n m : Nat) (acc : List DR) (r : List Tok), r.length < n → r.length < m → dirsP d n acc r = dirsP d m acc r
  | 0, _, _, _, h, _ => by omega
  | _, 0, _, _, _, h => by omega
  | n + 1, m + 1, acc, r, h1, h2 => by
    rw [dirsP, dirsP]
    by_cases hb : isT [64] r = true
    · rw [if_pos hb, if_pos hb]
      have h0 := isT_len hb
      cases hq : dirP d r.tail with
      | bad a e => rfl
      | ok x r1 =>
        have := dirP_takes d _ x r1 hq
        show dirsP d n (acc ++ [x]) r1 = dirsP d m (acc ++ [x]) r1
        rw [dirsP_fuel d n m (acc ++ [x]) r1 (by omega) (by omega)]
    · rw [if_neg hb, if_neg hb]
theorem isS_T {s : List UInt8} {r : List Tok} (h : isS s r = true) : isT s r = true := by unfold isT; rw [h]; rfl
/-- Between two signs, the first of which is there. -/
theorem many_eq {α : Type} {f : List Tok → PR α} (hf : Takes f) (o close : List UInt8) {r : List Tok} (hs : isS o r = true) : ((wantP o r).bind fun _ r1 => manyP f close (r1.length + 1) [] r1) = manyP f close (r.length + 1) [] r.tail := by
  have hl := isT_len (isS_T hs)
  unfold wantP
  rw [if_pos (isS_T hs)]
  exact manyP_fuel hf close _ _ _ _ (by omega) (by omega)
theorem selP_takes (d : Nat) {g : List Tok → PR (List SL)} (hg : Takes g) : Takes (selP d g) := fun r x r1 h => by
  unfold selP at h
  split at h
  · rename_i hd
    have h0 := isT_len hd
    split at h
    · rename_i ho
      have h1 := isT_len ho
      obtain ⟨s, r2, h2, h⟩ := bind_inv h
      obtain ⟨ds, r3, h3, h⟩ := bind_inv h
      obtain ⟨sub, r4, h4, h⟩ := bind_inv h
      injection h with _ h; subst h
      have := nameP_len h2; have := dirsP_len d _ _ _ _ _ h3; have := hg _ _ _ h4
      omega
    · split at h
      · obtain ⟨s, r2, h2, h⟩ := bind_inv h
        obtain ⟨ds, r3, h3, h⟩ := bind_inv h
        injection h with _ h; subst h
        have := nameP_len h2; have := dirsP_len d _ _ _ _ _ h3
        omega
      · obtain ⟨ds, r3, h3, h⟩ := bind_inv h
        obtain ⟨sub, r4, h4, h⟩ := bind_inv h
        injection h with _ h; subst h
        have := dirsP_len d _ _ _ _ _ h3; have := hg _ _ _ h4
        omega
  · obtain ⟨s, r2, h2, h⟩ := bind_inv h
    obtain ⟨p, r3, h3, h⟩ := bind_inv h
    obtain ⟨gs, r4, h4, h⟩ := bind_inv h
    obtain ⟨ds, r5, h5, h⟩ := bind_inv h
    obtain ⟨sub, r6, h6, h⟩ := bind_inv h
    injection h with _ h; subst h
    have a1 := nameP_len h2
    have a2 : r3.length ≤ r2.length := by
      split at h3
      · rename_i hc
        obtain ⟨s2, r7, h7, h3⟩ := bind_inv h3
        injection h3 with _ h3; subst h3
        have := isT_len hc; have := nameP_len h7
        omega
      · injection h3 with _ h3; subst h3; exact Nat.le_refl _
    have a3 := argsP_len h4
    have a4 := dirsP_len d _ _ _ _ _ h5
    have a5 : r6.length ≤ r5.length := by
      split at h6
      · have := hg _ _ _ h6; omega
      · injection h6 with _ h6; subst h6; exact Nat.le_refl _
    omega
theorem setP_takes : ∀ d, Takes (setP d)
  | 0 => fun r x r1 h => by cases h
  | d + 1 => fun r x r1 h => by
    rw [setP] at h
    obtain ⟨u, r2, h1, h2⟩ := bind_inv h
    have := wantP_len h1; have := manyP_len (selP_takes d (setP_takes d)) _ _ _ _ _ h2
    omega
theorem varP_takes : Takes varP := fun r x r1 h => by
  unfold varP at h
  obtain ⟨u, r2, h1, h⟩ := bind_inv h
  obtain ⟨s, r3, h2, h⟩ := bind_inv h
  obtain ⟨u2, r4, h3, h⟩ := bind_inv h
  obtain ⟨t, r5, h4, h⟩ := bind_inv h
  have := wantP_len h1; have := nameP_len h2; have := wantP_len h3; have := typP_takes _ _ _ _ h4
  split at h
  · rename_i hs
    obtain ⟨v, r6, h5, h⟩ := bind_inv h
    injection h with _ h; subst h
    have := isT_len hs; have := valueP_takes _ _ _ _ _ h5
    omega
  · injection h with _ h; subst h; omega
theorem opP_takes : Takes opP := fun r x r1 h => by
  unfold opP at h
  obtain ⟨m, r2, h1, h⟩ := bind_inv h
  obtain ⟨s, r3, h2, h⟩ := bind_inv h
  obtain ⟨vs, r4, h3, h⟩ := bind_inv h
  obtain ⟨sub, r5, h4, h⟩ := bind_inv h
  injection h with _ h; subst h
  have a1 : r2.length < r.length := by
    split at h1
    · rename_i hs; injection h1 with _ h1; subst h1; exact isT_len hs
    · obtain ⟨u, r6, h6, h1⟩ := bind_inv h1
      injection h1 with _ h1; subst h1; exact wantP_len h6
  have a2 : r3.length ≤ r2.length := by
    split at h2
    · have := nameP_len h2; omega
    · injection h2 with _ h2; subst h2; exact Nat.le_refl _
  have a3 : r4.length ≤ r3.length := by
    split at h3
    · have := manyP_len varP_takes _ _ _ _ _ h3
      rw [List.length_tail] at this; omega
    · injection h3 with _ h3; subst h3; exact Nat.le_refl _
  have a4 := setP_takes _ _ _ _ h4
  omega
theorem fragP_takes : Takes fragP := fun r x r1 h => by
  unfold fragP at h
  split at h
  · cases h
  · obtain ⟨s, r2, h1, h⟩ := bind_inv h
    obtain ⟨u, r3, h2, h⟩ := bind_inv h
    obtain ⟨o, r4, h3, h⟩ := bind_inv h
    obtain ⟨sub, r5, h4, h⟩ := bind_inv h
    injection h with _ h; subst h
    have := nameP_len h1; have := wantP_len h2; have := nameP_len h3; have := setP_takes _ _ _ _ h4
    omega
theorem defP_takes (d : DC) : Takes (defP d) := fun r x r1 h => by
  unfold defP at h
  split at h
  · obtain ⟨sub, r2, h1, h⟩ := bind_inv h
    injection h with _ h; subst h
    exact setP_takes _ _ _ _ h1
  · split at h
    · rename_i hs
      obtain ⟨f, r2, h1, h⟩ := bind_inv h
      injection h with _ h; subst h
      have := isT_len hs; have := fragP_takes _ _ _ h1
      omega
    · obtain ⟨o, r2, h1, h⟩ := bind_inv h
      injection h with _ h; subst h
      exact opP_takes _ _ _ h1
theorem docF_fuel : ∀ (n m : Nat) (d : DC) (r : List Tok), r.length < n → r.length < m → docF n d r = docF m d r
  | 0, _, _, _, h, _ => by omega
  | _, 0, _, _, _, h => by omega
  | n + 1, m + 1, d, r, h1, h2 => by
    rw [docF, docF]
    cases hq : defP d r with
    | bad a e => rfl
    | ok x r1 =>
      have := defP_takes d r x r1 hq
      show (if isK 0 r1 then PR.ok x r1 else docF n x r1) = (if isK 0 r1 then PR.ok x r1 else docF m x r1)
      rw [docF_fuel n m x r1 (by omega) (by omega)]
end Go.Proofs.YtgephneppgcnlaaDoor
