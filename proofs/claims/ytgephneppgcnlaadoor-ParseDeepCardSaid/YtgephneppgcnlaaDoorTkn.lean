/- Tokens, in plain Lean: runs of bytes, numbers. -/
import Derived.Test.YtgephneppgcnlaaDoorTok
namespace Go.Proofs.YtgephneppgcnlaaDoor
set_option linter.unusedVariables false
set_option linter.unusedSimpArgs false

theorem runL_all {f : UInt8 → Bool} : ∀ (l : List UInt8) (j : Nat) (hj : j < l.length), j < runL f l → f l[j] = true
  | [], j, hj, _ => absurd hj (by simp)
  | c :: l, j, hj, h => by
    unfold runL at h
    split at h
    · rename_i hc
      cases j with
      | zero => exact hc
      | succ j => simp only [List.getElem_cons_succ]; exact runL_all l j (by simpa using hj) (by omega)
    · omega
theorem runL_stop {f : UInt8 → Bool} : ∀ (l : List UInt8) (h : runL f l < l.length), f l[runL f l] = false
  | [], h => absurd h (by simp)
  | c :: l, h => by
    by_cases hc : f c = true
    · have e : runL f (c :: l) = runL f l + 1 := by rw [runL, if_pos hc]
      have h' : runL f l < l.length := by rw [e] at h; simpa using h
      have := runL_stop l h'
      simp only [e, List.getElem_cons_succ]; exact this
    · have e : runL f (c :: l) = 0 := by rw [runL, if_neg hc]
      simp only [e, List.getElem_cons_zero]; simpa using hc
theorem runL_eq {f : UInt8 → Bool} : ∀ (l : List UInt8) (k : Nat), k ≤ l.length → (∀ j (hj : j < l.length), j < k → f l[j] = true) → (∀ hk : k < l.length, f l[k] = false) → runL f l = k
  | [], k, hk, _, _ => by have : k = 0 := by simpa using hk
                          subst this; rfl
  | c :: l, k, hk, h1, h2 => by
    cases k with
    | zero =>
      have := h2 (by simp)
      rw [runL, if_neg (by simpa using this)]
    | succ k =>
      have hc := h1 0 (by simp) (by omega)
      rw [runL, if_pos (by simpa using hc)]
      have := runL_eq l k (by simpa using hk) (fun j hj hjk => by have := h1 (j + 1) (by simpa using hj) (by omega); simpa using this) (fun hk' => by have := h2 (by simpa using hk'); simpa using this)
      omega
theorem runL_full {f : UInt8 → Bool} : ∀ (l : List UInt8), (∀ x ∈ l, f x = true) → runL f l = l.length
  | [], _ => rfl
  | c :: l, h => by rw [runL, if_pos (h c (by simp)), runL_full l (fun x hx => h x (by simp [hx]))]; rfl
theorem runL_app {f : UInt8 → Bool} : ∀ (l r : List UInt8), (∀ x ∈ l, f x = true) → runL f (l ++ r) = l.length + runL f r
  | [], r, _ => by simp
  | c :: l, r, h => by
    rw [List.cons_append, runL, if_pos (h c (by simp)), runL_app l r (fun x hx => h x (by simp [hx]))]
    simp only [List.length_cons]; omega
theorem runL_take_all {f : UInt8 → Bool} (l : List UInt8) : ∀ x ∈ l.take (runL f l), f x = true := by
  intro x hx
  obtain ⟨i, hi, rfl⟩ := List.mem_iff_getElem.1 hx
  rw [List.length_take] at hi
  rw [List.getElem_take]
  exact runL_all l i (by omega) (by omega)
/-- What stands behind does not lengthen a run that has ended, nor does what can't go on with it. -/
theorem runL_cut {f : UInt8 → Bool} : ∀ (l r : List UInt8), (runL f l < l.length ∨ ∀ hr : 0 < r.length, f r[0] = false) → runL f (l ++ r) = runL f l
  | [], r, h => by
    rcases h with h | h
    · simp at h
    · cases r with
      | nil => rfl
      | cons c r =>
        have := h (by simp)
        have this : f c = false := this
        show runL f (c :: r) = 0
        simp [runL, this]
  | c :: l, r, h => by
    rw [List.cons_append, runL, runL]
    split
    · rename_i hc
      rw [runL_cut l r ?_]
      rcases h with h | h
      · rw [runL, if_pos hc] at h; left; simpa using h
      · exact .inr h
    · rfl
/-! ### Numbers -/
theorem decStep_eq (a : Nat) (c : UInt8) : decStep a c = a * 10 + (c.toNat - 48) := by unfold decStep; rfl
theorem decV_nil (a : Nat) : decV a [] = a := by unfold decV; exact List.foldl_nil
theorem decV_cons (a : Nat) (c : UInt8) (l : List UInt8) : decV a (c :: l) = decV (a * 10 + (c.toNat - 48)) l := by
  unfold decV; rw [List.foldl_cons, decStep_eq]
theorem decV_snoc (a : Nat) (l : List UInt8) (c : UInt8) : decV a (l ++ [c]) = decV a l * 10 + (c.toNat - 48) := by
  unfold decV; rw [List.foldl_append, List.foldl_cons, List.foldl_nil, decStep_eq]
theorem dig_bd {c : UInt8} (h : digB c = true) : 48 ≤ c.toNat ∧ c.toNat ≤ 57 := by
  unfold digB at h; simpa using h
theorem decV_lt : ∀ (l : List UInt8) (a k : Nat), (∀ x ∈ l, digB x = true) → a < 10 ^ k → decV a l < 10 ^ (l.length + k)
  | [], a, k, _, ha => by rw [List.length_nil, Nat.zero_add, decV_nil]; exact ha
  | c :: l, a, k, h, ha => by
    rw [decV_cons]
    have hc := dig_bd (h c (by simp))
    have := decV_lt l (a * 10 + (c.toNat - 48)) (k + 1) (fun x hx => h x (by simp [hx])) (by rw [Nat.pow_succ]; omega)
    rw [List.length_cons]
    rw [show l.length + 1 + k = l.length + (k + 1) from by omega]
    exact this
theorem pow18 (k : Nat) (hk : k ≤ 18) : 10 ^ k ≤ 10 ^ 18 := Nat.pow_le_pow_right (by decide) hk
theorem parseM_gen (M : Nat) (hM : 1000000000000000000 ≤ M) (l : List UInt8) : ∀ (a k : Nat), (∀ x ∈ l, digB x = true) → a < 10 ^ k → l.length + k ≤ 18 → Lib.parseUintM M a l = .ok (decV a l) := by
  induction l with
  | nil => intro a k _ _ _; rw [Lib.parseUintM, decV_nil]
  | cons c l ih =>
    intro a k h ha hk
    have hc := dig_bd (h c (by simp))
    simp only [List.length_cons] at hk
    have hp := pow18 (k + 1) (by omega)
    have h18 : 10 ^ 18 = 1000000000000000000 := by decide
    have hs : 10 ^ (k + 1) = 10 ^ k * 10 := Nat.pow_succ 10 k
    rw [Lib.parseUintM, if_pos hc, if_neg (by omega), if_neg (by omega), decV_cons]
    exact ih _ (k + 1) (fun x hx => h x (by simp [hx])) (by omega) (by omega)
theorem parseM_dec (l : List UInt8) (a k : Nat) (h : ∀ x ∈ l, digB x = true) (ha : a < 10 ^ k) (hk : l.length + k ≤ 18) : Lib.parseUintM (2 ^ 64 - 1) a l = .ok (decV a l) := parseM_gen _ (by decide) l a k h ha hk
theorem numFrom_le (l : List UInt8) : numFrom l ≤ 1 := by unfold numFrom; split <;> omega
/-- What a number is, and what it is made of. -/
theorem numP_ok {l : List UInt8} {kd : Nat} {t : List UInt8} {n : Int} {len : Nat} (h : numP l = .ok kd t n len) : ∃ D, 1 ≤ D ∧ D ≤ 18 ∧ len = numFrom l + D ∧ kd = 2 ∧ t = l.take len ∧ runL digB (l.drop (numFrom l)) = D ∧
    n = (if numFrom l = 1 then -1 else 1) * (decV 0 ((l.drop (numFrom l)).take D) : Int) ∧ ¬ ((l.getD (numFrom l) 0).toNat = 48 ∧ 1 < D) ∧ ¬ (len < l.length ∧ (letB (l.getD len 0) = true ∨ (l.getD len 0).toNat = 46)) := by
  unfold numP at h
  simp only at h
  split at h
  · cases h
  · split at h
    · cases h
    · split at h
      · cases h
      · split at h
        · cases h
        · rename_i h1 h2 h3 h4
          injection h with e1 e2 e3 e4
          refine ⟨runL digB (l.drop (numFrom l)), by omega, by omega, e4.symm, e1.symm, by rw [← e2, e4], rfl, ?_, fun h => h2 ⟨h.1, by omega⟩, by rw [← e4]; exact h3⟩
          rw [← e3, Nat.add_sub_cancel_left]
theorem parse_num {l : List UInt8} {kd : Nat} {t : List UInt8} {n : Int} {len : Nat} (h : numP l = .ok kd t n len) : Lib.parseIntB 64 t = .ok n := by
  obtain ⟨D, h1, h2, rfl, rfl, rfl, h6, rfl, _, _⟩ := numP_ok h
  have hrl := runL_le digB (l.drop (numFrom l))
  rw [h6, List.length_drop] at hrl
  have hall : ∀ x ∈ (l.drop (numFrom l)).take D, digB x = true := by rw [← h6]; exact runL_take_all _
  have hlen : ((l.drop (numFrom l)).take D).length = D := by rw [List.length_take, List.length_drop]; omega
  have hlt := decV_lt _ 0 0 hall (by decide)
  have hpm := parseM_dec _ 0 0 hall (by decide) (by omega)
  have hp := pow18 D h2
  rw [hlen, Nat.add_zero] at hlt
  obtain ⟨ds, hds⟩ : ∃ ds, (l.drop (numFrom l)).take D = ds := ⟨_, rfl⟩
  rw [hds] at hall hlen hlt hpm ⊢
  have hu : Lib.parseUintB 64 ds = .ok (decV 0 ds) := by
    unfold Lib.parseUintB
    rw [if_neg (by rintro rfl; simp at hlen; omega)]; exact hpm
  cases l with
  | nil => simp at hrl; omega
  | cons c r =>
    by_cases hc : c.toNat = 45
    · have hf : numFrom (c :: r) = 1 := by unfold numFrom; rw [if_pos (by simp [hc])]
      rw [hf] at hds ⊢
      simp only [List.drop_succ_cons, List.drop_zero] at hds
      rw [Nat.add_comm, List.take_succ_cons, hds]
      unfold Lib.parseIntB
      simp only
      rw [if_pos (.inr hc), hu]
      simp only
      rw [if_neg (by simp [hc]), if_neg (by omega), if_pos hc]
      simp
    · have hf : numFrom (c :: r) = 0 := by unfold numFrom; rw [if_neg (by simp [hc])]
      rw [hf] at hds ⊢
      simp only [List.drop_zero] at hds
      rw [Nat.zero_add, hds]
      cases ds with
      | nil => simp at hlen; omega
      | cons d ds =>
        have hd := dig_bd (hall d (by simp))
        unfold Lib.parseIntB
        simp only
        rw [if_neg (by omega), hu]
        simp only
        rw [if_neg (by omega), if_neg (by omega), if_neg (by omega)]
        simp
end Go.Proofs.YtgephneppgcnlaaDoor
