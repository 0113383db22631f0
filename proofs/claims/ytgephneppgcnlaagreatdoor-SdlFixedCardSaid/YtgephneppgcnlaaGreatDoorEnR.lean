/- Tokens, in plain Lean: the end is last; a fault's number. -/
import Derived.Test.YtgephneppgcnlaaGreatDoorPrA
namespace Go.Proofs.YtgephneppgcnlaaGreatDoor
set_option linter.unusedVariables false
set_option linter.unusedSimpArgs false

/-- Some tokens, the end last. -/
def EndR : List Tok → Prop
  | [] => False
  | [t] => t.kind = 0
  | _ :: t :: r => EndR (t :: r)
theorem EndR.tail {t : Tok} {r : List Tok} (h : EndR (t :: r)) (hk : t.kind ≠ 0) : EndR r := by
  cases r with
  | nil => exact absurd h hk
  | cons u r => exact h
theorem numP_bad {l : List UInt8} {o e : Nat} (h : numP l = .bad o e) : e ≠ 0 := by
  unfold numP at h
  simp only at h
  repeat' split at h
  all_goals first
    | (injection h with _ h; omega)
    | cases h
theorem txtP_bad : ∀ (m : Nat) (l acc : List UInt8) (k : Nat) {o e : Nat}, l.length ≤ m → txtP acc k l = .bad o e → e ≠ 0
  | _, [], acc, k, o, e, _, h => by
    rw [txtP.eq_def] at h; injection h with _ h; omega
  | 0, c :: l, acc, k, o, e, hl, h => by simp at hl
  | m + 1, c :: l, acc, k, o, e, hl, h => by
    simp only [List.length_cons] at hl
    rw [txtP.eq_def] at h
    simp only at h
    split at h
    · split at h
      · injection h with _ h; omega
      · cases h
    · split at h
      · injection h with _ h; omega
      · split at h
        · cases l with
          | nil => injection h with _ h; omega
          | cons d l' =>
            simp only [List.length_cons] at hl
            simp only at h
            split at h
            · exact txtP_bad m l' _ _ (by omega) h
            · split at h
              · exact txtP_bad m l' _ _ (by omega) h
              · split at h
                · exact txtP_bad m l' _ _ (by omega) h
                · injection h with _ h; omega
        · exact txtP_bad m l _ _ (by omega) h
theorem oneP_bad {l : List UInt8} {o e : Nat} (h : oneP l = .bad o e) : e ≠ 0 := by
  cases l with
  | nil => injection h with _ h; omega
  | cons c l =>
    rw [oneP_cons] at h
    split at h
    · split at h
      · injection h with _ h; omega
      · cases h
    · split at h
      · exact numP_bad h
      · split at h
        · exact txtP_bad _ l _ _ (Nat.le_refl _) h
        · split at h
          · cases h
          · split at h
            · cases h
            · injection h with _ h; omega
theorem toksF_bad : ∀ (f a : Nat) (l : List UInt8) {x e : Nat}, toksF f a l = .bad x e → e ≠ 0
  | 0, a, l, x, e, h => by injection h with _ h; omega
  | f + 1, a, [], x, e, h => by cases h
  | f + 1, a, c :: l, x, e, h => by
    unfold toksF at h
    split at h
    · exact toksF_bad f _ _ h
    · split at h
      · exact toksF_bad f _ _ h
      · split at h
        · rename_i hq; injection h with _ h; subst h; exact oneP_bad hq
        · exact toksF_bad f _ _ (Out.cons_bad h)
theorem toks_bad {s : List UInt8} {x e : Nat} (h : toks s = .bad x e) : e ≠ 0 := by
  unfold toks at h
  split at h
  · injection h with _ h; omega
  · exact toksF_bad _ _ _ h
theorem numP_kind {l : List UInt8} {kd : Nat} {t : List UInt8} {n : Int} {len : Nat} (h : numP l = .ok kd t n len) : kd ≠ 0 := by
  unfold numP at h
  simp only at h
  repeat' split at h
  all_goals first
    | (injection h with h; omega)
    | cases h
theorem oneP_kind {l : List UInt8} {kd : Nat} {t : List UInt8} {n : Int} {len : Nat} (h : oneP l = .ok kd t n len) : kd ≠ 0 := by
  cases l with
  | nil => cases h
  | cons c l =>
    rw [oneP_cons] at h
    split at h
    · split at h
      · cases h
      · injection h with h; omega
    · split at h
      · exact numP_kind h
      · split at h
        · have := (txtP_len _ _ _ h).2.2.1; omega
        · split at h
          · injection h with h; omega
          · split at h
            · injection h with h; omega
            · cases h
theorem toksF_end : ∀ (f a : Nat) (l : List UInt8) {ts : List Tok}, toksF f a l = .ok ts → EndR ts ∧ ts.length ≤ l.length + 1
  | 0, a, l, ts, h => by cases h
  | f + 1, a, [], ts, h => by injection h with h; subst h; exact ⟨rfl, by simp⟩
  | f + 1, a, c :: l, ts, h => by
    unfold toksF at h
    split at h
    · have := toksF_end f _ _ h; exact ⟨this.1, by simp only [List.length_cons]; omega⟩
    · split at h
      · have := toksF_end f _ _ h; exact ⟨this.1, by rw [List.length_drop] at this; simp only [List.length_cons]; omega⟩
      · split at h
        · cases h
        · rename_i k t n len hq
          obtain ⟨us, h1, rfl⟩ := Out.cons_ok h
          have := toksF_end f _ _ h1
          have hl := oneP_len hq
          refine ⟨?_, ?_⟩
          · cases us with
            | nil => exact this.1.elim
            | cons u us => exact this.1
          · rw [List.length_drop] at this; simp only [List.length_cons] at this hl ⊢; omega
theorem toks_end {s : List UInt8} {ts : List Tok} (h : toks s = .ok ts) : EndR ts ∧ ts.length ≤ 2001 := by
  obtain ⟨h1, h2⟩ := toks_ok h
  have := toksF_end _ _ _ h2
  exact ⟨this.1, by omega⟩
end Go.Proofs.YtgephneppgcnlaaGreatDoor
