/- Tokens, in plain Lean: where they stand; a law by induction on a text. -/
import Derived.Test.YtgephneppgcnlaaDoorTkn
namespace Go.Proofs.YtgephneppgcnlaaDoor
set_option linter.unusedVariables false
set_option linter.unusedSimpArgs false

theorem toks_ind {P : Nat → List UInt8 → Prop} (h0 : ∀ a, P a [])
    (hb : ∀ a c l, blkB c = true → P (a + 1) l → P a (c :: l))
    (hr : ∀ a c l, c.toNat = 35 → P (a + 1 + runL lineB l) (l.drop (runL lineB l)) → P a (c :: l))
    (hx : ∀ a c l off e, blkB c = false → c.toNat ≠ 35 → oneP (c :: l) = .bad off e → P a (c :: l))
    (ho : ∀ a c l k t n len, blkB c = false → c.toNat ≠ 35 → oneP (c :: l) = .ok k t n len → P (a + len) ((c :: l).drop len) → P a (c :: l)) :
    ∀ (m : Nat) (a : Nat) (l : List UInt8), l.length ≤ m → P a l
  | _, a, [], _ => h0 a
  | 0, _, _ :: _, h => by simp at h
  | m + 1, a, c :: l, h => by
    simp only [List.length_cons] at h
    by_cases h1 : blkB c = true
    · exact hb a c l h1 (toks_ind h0 hb hr hx ho m _ _ (by omega))
    by_cases h2 : c.toNat = 35
    · exact hr a c l h2 (toks_ind h0 hb hr hx ho m _ _ (by rw [List.length_drop]; omega))
    cases h3 : oneP (c :: l) with
    | bad off e => exact hx a c l off e (by simpa using h1) h2 h3
    | ok k t n len =>
      have := oneP_len h3
      exact ho a c l k t n len (by simpa using h1) h2 h3 (toks_ind h0 hb hr hx ho m _ _ (by rw [List.length_drop, List.length_cons]; omega))
theorem toksA_ind {P : Nat → List UInt8 → Prop} (h0 : ∀ a, P a [])
    (hb : ∀ a c l, blkB c = true → P (a + 1) l → P a (c :: l))
    (hr : ∀ a c l, c.toNat = 35 → P (a + 1 + runL lineB l) (l.drop (runL lineB l)) → P a (c :: l))
    (hx : ∀ a c l off e, blkB c = false → c.toNat ≠ 35 → oneP (c :: l) = .bad off e → P a (c :: l))
    (ho : ∀ a c l k t n len, blkB c = false → c.toNat ≠ 35 → oneP (c :: l) = .ok k t n len → P (a + len) ((c :: l).drop len) → P a (c :: l)) (a : Nat) (l : List UInt8) : P a l :=
  toks_ind h0 hb hr hx ho l.length a l (Nat.le_refl _)
theorem Out.cons_ok {t : Tok} {o : Out} {ts : List Tok} (h : o.cons t = .ok ts) : ∃ us, o = .ok us ∧ ts = t :: us := by
  cases o with
  | ok us => injection h with h; exact ⟨us, rfl, h.symm⟩
  | bad a e => cases h
theorem Out.cons_bad {t : Tok} {o : Out} {a e : Nat} (h : o.cons t = .bad a e) : o = .bad a e := by
  cases o with
  | ok us => cases h
  | bad a' e' => exact h
theorem toks_ok {s : List UInt8} {ts : List Tok} (h : toks s = .ok ts) : s.length ≤ 2000 ∧ toksA 0 s = .ok ts := by
  unfold toks at h
  split at h
  · cases h
  · exact ⟨by omega, h⟩
theorem toks_short {s : List UInt8} (h : s.length ≤ 2000) : toks s = toksA 0 s := by unfold toks; rw [if_neg (by omega)]
/-- There is a token, and each stands in the text. -/
theorem toksA_at : ∀ (a : Nat) (l : List UInt8), ∀ ts, toksA a l = .ok ts → 0 < ts.length ∧ ∀ t ∈ ts, a ≤ t.at_ ∧ t.at_ ≤ a + l.length := by
  refine toksA_ind ?_ ?_ ?_ ?_ ?_
  · intro a ts h
    rw [toksA_nil] at h; injection h with h; subst h
    exact ⟨by simp, fun t ht => by simp at ht; subst ht; simp⟩
  · intro a c l hb ih ts h
    rw [toksA_blk a hb] at h
    obtain ⟨h1, h2⟩ := ih ts h
    exact ⟨h1, fun t ht => by have := h2 t ht; simp only [List.length_cons]; omega⟩
  · intro a c l hr ih ts h
    rw [toksA_rem a hr] at h
    obtain ⟨h1, h2⟩ := ih ts h
    refine ⟨h1, fun t ht => ?_⟩
    have := h2 t ht
    have hl := runL_le lineB l
    rw [List.length_drop] at this
    simp only [List.length_cons]; omega
  · intro a c l off e hb hr hx ts h
    rw [toksA_bad a hb hr hx] at h; cases h
  · intro a c l k t n len hb hr ho ih ts h
    rw [toksA_one a hb hr ho] at h
    obtain ⟨us, hu, rfl⟩ := Out.cons_ok h
    obtain ⟨h1, h2⟩ := ih us hu
    have hl := oneP_len ho
    refine ⟨by simp, fun t ht => ?_⟩
    rcases List.mem_cons.1 ht with rfl | ht
    · exact ⟨Nat.le_refl _, by simp⟩
    · have := h2 t ht
      rw [List.length_drop] at this
      omega
theorem toks_at {s : List UInt8} {ts : List Tok} (h : toks s = .ok ts) : 0 < ts.length ∧ ∀ t ∈ ts, t.at_ ≤ s.length := by
  obtain ⟨h1, h2⟩ := toks_ok h
  obtain ⟨h3, h4⟩ := toksA_at 0 s ts h2
  exact ⟨h3, fun t ht => by have := h4 t ht; omega⟩
end Go.Proofs.YtgephneppgcnlaaDoor
