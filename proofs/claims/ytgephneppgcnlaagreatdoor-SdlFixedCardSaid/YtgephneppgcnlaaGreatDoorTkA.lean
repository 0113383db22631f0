/- The tokens of a text, in plain Lean: what both the program and the document's answer compute. Tokens, in plain Lean: runs of bytes, numbers. Tokens, in plain Lean: where they stand; a law by induction on a text. Tokens, in plain Lean: what stands behind a text; places; blanks ahead. Tokens, in plain Lean: where they stand in the text; the same tokens written anew; texts in quotes; numbers written out. -/
import Derived.Lib.ParseIntB
namespace Go.Proofs.YtgephneppgcnlaaGreatDoor
set_option linter.unusedVariables false
set_option linter.unusedSimpArgs false

def letB (c : UInt8) : Bool := (decide (97 ≤ c.toNat) && decide (c.toNat ≤ 122)) || (decide (65 ≤ c.toNat) && decide (c.toNat ≤ 90)) || decide (c.toNat = 95)
def digB (c : UInt8) : Bool := decide (48 ≤ c.toNat) && decide (c.toNat ≤ 57)
def ldB (c : UInt8) : Bool := letB c || digB c
def blkB (c : UInt8) : Bool := decide (c.toNat = 32) || decide (c.toNat = 9) || decide (c.toNat = 13) || decide (c.toNat = 10) || decide (c.toNat = 44)
def lineB (c : UInt8) : Bool := !decide (c.toNat = 10)
def signB (c : UInt8) : Bool := decide (c.toNat ∈ [33, 36, 40, 41, 58, 61, 64, 91, 93, 123, 124, 125, 38])
/-- How many bytes from the beginning on are so. -/
def runL (f : UInt8 → Bool) : List UInt8 → Nat
  | [] => 0
  | c :: l => if f c then runL f l + 1 else 0
theorem runL_le (f : UInt8 → Bool) : ∀ l, runL f l ≤ l.length
  | [] => Nat.le_refl _
  | c :: l => by unfold runL; split <;> simp only [List.length_cons] <;> have := runL_le f l <;> omega
/-- The value of digits, the first d of them. -/
def decStep (a : Nat) (c : UInt8) : Nat := a * 10 + (c.toNat - 48)
def decV (a : Nat) (l : List UInt8) : Nat := List.foldl decStep a l
inductive One where
  | ok (kind : Nat) (text : List UInt8) (n : Int) (len : Nat)
  | bad (off e : Nat)
def numFrom (l : List UInt8) : Nat := if l.head?.map (·.toNat) = some 45 then 1 else 0
def numP (l : List UInt8) : One :=
  let from_ := numFrom l
  let n := from_ + runL digB (l.drop from_)
  if n = from_ then .bad n 4
  else if (l.getD from_ 0).toNat = 48 ∧ from_ + 1 < n then .bad (from_ + 1) 4
  else if n < l.length ∧ (letB (l.getD n 0) = true ∨ (l.getD n 0).toNat = 46) then .bad n 4
  else if 18 < n - from_ then .bad 0 1
  else .ok 2 (l.take n) ((if from_ = 1 then -1 else 1) * (decV 0 ((l.drop from_).take (n - from_)) : Int)) n
def txtP : List UInt8 → Nat → List UInt8 → One
  | acc, k, [] => .bad k 4
  | acc, k, c :: l =>
    if c.toNat = 34 then (if 200 < acc.length then .bad 0 2 else .ok 3 acc 0 (k + 1))
    else if c.toNat = 10 then .bad k 4
    else if c.toNat = 92 then
      match l with
      | [] => .bad (k + 1) 4
      | d :: l' =>
        if d.toNat = 34 ∨ d.toNat = 92 ∨ d.toNat = 47 then txtP (acc ++ [d]) (k + 2) l'
        else if d.toNat = 110 then txtP (acc ++ [10]) (k + 2) l'
        else if d.toNat = 116 then txtP (acc ++ [9]) (k + 2) l'
        else .bad (k + 1) 4
    else txtP (acc ++ [c]) (k + 1) l
def dotsB (l : List UInt8) : Bool := decide ((l.take 3).map (·.toNat) = [46, 46, 46])
def oneP : List UInt8 → One
  | [] => .bad 0 4
  | c :: l =>
    if letB c then (if 32 < runL ldB (c :: l) then .bad 0 2 else .ok 1 ((c :: l).take (runL ldB (c :: l))) 0 (runL ldB (c :: l)))
    else if c.toNat = 45 ∨ digB c = true then numP (c :: l)
    else if c.toNat = 34 then txtP [] 1 l
    else if dotsB (c :: l) then .ok 4 [46, 46, 46] 0 3
    else if signB c then .ok 4 [c] 0 1
    else .bad 0 4
structure Tok where
  kind : Nat
  text : List UInt8
  n : Int
  at_ : Nat
inductive Out where
  | ok (ts : List Tok)
  | bad (at_ e : Nat)
def Out.cons (t : Tok) : Out → Out
  | .ok ts => .ok (t :: ts)
  | .bad a e => .bad a e
def toksF : Nat → Nat → List UInt8 → Out
  | 0, at_, _ => .bad at_ 4
  | f + 1, at_, [] => .ok [⟨0, [], 0, at_⟩]
  | f + 1, at_, c :: l =>
    if blkB c then toksF f (at_ + 1) l
    else if c.toNat = 35 then toksF f (at_ + 1 + runL lineB l) (l.drop (runL lineB l))
    else match oneP (c :: l) with
      | .bad off e => .bad (at_ + off) e
      | .ok k t n len => (toksF f (at_ + len) ((c :: l).drop len)).cons ⟨k, t, n, at_⟩
def toksA (at_ : Nat) (l : List UInt8) : Out := toksF (l.length + 1) at_ l
/-- The tokens of a text. -/
def toks (s : List UInt8) : Out := if 2000 < s.length then .bad 0 2 else toksA 0 s

/-! ### What a token takes -/
theorem runL_pos {f : UInt8 → Bool} {c : UInt8} {l : List UInt8} (h : f c = true) : 1 ≤ runL f (c :: l) := by unfold runL; rw [if_pos h]; omega
theorem txtP_len : ∀ (l : List UInt8) (acc : List UInt8) (k : Nat) {kd : Nat} {t : List UInt8} {n : Int} {len : Nat}, txtP acc k l = .ok kd t n len → k + 1 ≤ len ∧ len ≤ k + l.length ∧ kd = 3 ∧ n = 0 ∧ t.length ≤ 200
  | [], acc, k, kd, t, n, len, h => by unfold txtP at h; cases h
  | c :: l, acc, k, kd, t, n, len, h => by
    unfold txtP at h
    split at h
    · split at h
      · cases h
      · injection h with h1 h2 h3 h4
        subst h1; subst h2; subst h3; subst h4
        refine ⟨Nat.le_refl _, by simp, rfl, rfl, by omega⟩
    · split at h
      · cases h
      · split at h
        · cases l with
          | nil => simp at h
          | cons d l' =>
            simp only at h
            have ih := fun x => txtP_len l' (acc ++ [x]) (k + 2) (kd := kd) (t := t) (n := n) (len := len)
            simp only [List.length_cons]
            split at h
            · have := ih _ h; omega
            · split at h
              · have := ih _ h; omega
              · split at h
                · have := ih _ h; omega
                · cases h
        · have := txtP_len l (acc ++ [c]) (k + 1) h
          simp only [List.length_cons]; omega
theorem numP_len {l : List UInt8} {kd : Nat} {t : List UInt8} {n : Int} {len : Nat} (h : numP l = .ok kd t n len) (hl : l ≠ []) : 1 ≤ len ∧ len ≤ l.length ∧ kd = 2 ∧ t = l.take len := by
  unfold numP at h
  simp only at h
  split at h
  · cases h
  · split at h
    · cases h
    · split at h
      · cases h
      · split at h
        · cases h
        · injection h with h1 h2 h3 h4
          have := runL_le digB (l.drop (numFrom l))
          rw [List.length_drop] at this
          have h1' : numFrom l ≤ 1 := by unfold numFrom; split <;> omega
          have h2' : 1 ≤ l.length := by cases l with | nil => exact absurd rfl hl | cons => simp
          refine ⟨by omega, by omega, h1.symm, ?_⟩
          rw [← h2, h4]
theorem oneP_len {l : List UInt8} {kd : Nat} {t : List UInt8} {n : Int} {len : Nat} (h : oneP l = .ok kd t n len) : 1 ≤ len ∧ len ≤ l.length := by
  cases l with
  | nil => simp [oneP] at h
  | cons c l =>
    simp only [oneP] at h
    split at h
    · rename_i hc
      split at h
      · cases h
      · injection h with h1 h2 h3 h4
        rw [← h4]
        exact ⟨runL_pos (by unfold ldB; rw [hc]; rfl), runL_le _ _⟩
    · split at h
      · have := numP_len h (by simp); exact ⟨this.1, this.2.1⟩
      · split at h
        · have := txtP_len l [] 1 h; simp only [List.length_cons]; omega
        · split at h
          · rename_i hd
            injection h with h1 h2 h3 h4
            rw [← h4]
            refine ⟨by decide, ?_⟩
            unfold dotsB at hd
            have := congrArg List.length (of_decide_eq_true hd)
            simp at this ⊢; omega
          · split at h
            · injection h with h1 h2 h3 h4; rw [← h4]; exact ⟨Nat.le_refl _, by simp⟩
            · cases h
/-- Fuel beyond the length changes nothing. -/
theorem toksF_more : ∀ (f g at_ : Nat) (l : List UInt8), l.length < f → l.length < g → toksF f at_ l = toksF g at_ l
  | 0, _, _, _, h, _ => absurd h (by omega)
  | _ + 1, 0, _, _, _, h => absurd h (by omega)
  | f + 1, g + 1, at_, [], _, _ => rfl
  | f + 1, g + 1, at_, c :: l, h1, h2 => by
    simp only [List.length_cons] at h1 h2
    simp only [toksF]
    by_cases hb : blkB c = true
    · rw [if_pos hb, if_pos hb]; exact toksF_more f g _ _ (by omega) (by omega)
    rw [if_neg hb, if_neg hb]
    by_cases hr : c.toNat = 35
    · rw [if_pos hr, if_pos hr]; exact toksF_more f g _ _ (by rw [List.length_drop]; omega) (by rw [List.length_drop]; omega)
    rw [if_neg hr, if_neg hr]
    cases ho : oneP (c :: l) with
    | bad off e => rfl
    | ok k t n len =>
      have := oneP_len ho
      simp only
      rw [toksF_more f g _ _ (by rw [List.length_drop, List.length_cons]; omega) (by rw [List.length_drop, List.length_cons]; omega)]
theorem toksA_nil (at_ : Nat) : toksA at_ [] = .ok [⟨0, [], 0, at_⟩] := rfl
theorem toksA_blk (at_ : Nat) {c : UInt8} {l : List UInt8} (h : blkB c = true) : toksA at_ (c :: l) = toksA (at_ + 1) l := by
  unfold toksA
  show toksF (l.length + 1 + 1) at_ (c :: l) = _
  rw [toksF, if_pos h]
theorem toksA_rem (at_ : Nat) {c : UInt8} {l : List UInt8} (h : c.toNat = 35) : toksA at_ (c :: l) = toksA (at_ + 1 + runL lineB l) (l.drop (runL lineB l)) := by
  have hb : blkB c = false := by unfold blkB; rw [h]; rfl
  unfold toksA
  show toksF (l.length + 1 + 1) at_ (c :: l) = _
  rw [toksF]
  rw [if_neg (by rw [hb]; decide), if_pos h]
  exact toksF_more _ _ _ _ (by rw [List.length_drop]; omega) (by omega)
theorem toksA_bad (at_ : Nat) {c : UInt8} {l : List UInt8} {off e : Nat} (hb : blkB c = false) (hr : c.toNat ≠ 35) (h : oneP (c :: l) = .bad off e) : toksA at_ (c :: l) = .bad (at_ + off) e := by
  unfold toksA
  show toksF (l.length + 1 + 1) at_ (c :: l) = _
  rw [toksF]
  rw [if_neg (by rw [hb]; decide), if_neg hr, h]
theorem toksA_one (at_ : Nat) {c : UInt8} {l : List UInt8} {k : Nat} {t : List UInt8} {n : Int} {len : Nat} (hb : blkB c = false) (hr : c.toNat ≠ 35) (h : oneP (c :: l) = .ok k t n len) : toksA at_ (c :: l) = (toksA (at_ + len) ((c :: l).drop len)).cons ⟨k, t, n, at_⟩ := by
  have hl := oneP_len h
  unfold toksA
  show toksF (l.length + 1 + 1) at_ (c :: l) = _
  rw [toksF]
  rw [if_neg (by rw [hb]; decide), if_neg hr, h]
  simp only
  rw [toksF_more _ (((c :: l).drop len).length + 1) _ _ (by rw [List.length_drop, List.length_cons]; omega) (by omega)]
/-- A run of blanks. -/
theorem toksA_run (at_ : Nat) : ∀ (l : List UInt8), toksA at_ l = toksA (at_ + runL blkB l) (l.drop (runL blkB l))
  | [] => rfl
  | c :: l => by
    unfold runL
    split
    · rename_i h
      rw [toksA_blk at_ h, toksA_run (at_ + 1) l, List.drop_succ_cons]
      congr 1; omega
    · rfl
def Out.app (ts : List Tok) : Out → Out
  | .ok us => .ok (ts ++ us)
  | .bad a e => .bad a e
theorem Out.app_nil (o : Out) : o.app [] = o := by cases o <;> rfl
theorem Out.app_cons (ts : List Tok) (t : Tok) (o : Out) : (o.cons t).app ts = o.app (ts ++ [t]) := by
  cases o <;> simp [Out.cons, Out.app]
end Go.Proofs.YtgephneppgcnlaaGreatDoor
namespace Go.Proofs.YtgephneppgcnlaaGreatDoor
set_option linter.unusedVariables false
set_option linter.unusedSimpArgs false

theorem runL_all {f : UInt8 → Bool} : ∀ (l : List UInt8) (j : Nat) (hj : j < l.length), j < runL f l → f l[j] = true
  | [], j, hj, _ => absurd hj (by simp)
  | c :: l, j, hj, h => by
    unfold runL at h
    split at h
    · rename_i hc
      cases j with
      | zero => exact hc
      | succ j => simp only [List.getElem_cons_succ]; exact runL_all l j (by simpa using hj) (by omega)
    · omega
theorem runL_stop {f : UInt8 → Bool} : ∀ (l : List UInt8) (h : runL f l < l.length), f l[runL f l] = false
  | [], h => absurd h (by simp)
  | c :: l, h => by
    by_cases hc : f c = true
    · have e : runL f (c :: l) = runL f l + 1 := by rw [runL, if_pos hc]
      have h' : runL f l < l.length := by rw [e] at h; simpa using h
      have := runL_stop l h'
      simp only [e, List.getElem_cons_succ]; exact this
    · have e : runL f (c :: l) = 0 := by rw [runL, if_neg hc]
      simp only [e, List.getElem_cons_zero]; simpa using hc
theorem runL_eq {f : UInt8 → Bool} : ∀ (l : List UInt8) (k : Nat), k ≤ l.length → (∀ j (hj : j < l.length), j < k → f l[j] = true) → (∀ hk : k < l.length, f l[k] = false) → runL f l = k
  | [], k, hk, _, _ => by have : k = 0 := by simpa using hk
                          subst this; rfl
  | c :: l, k, hk, h1, h2 => by
    cases k with
    | zero =>
      have := h2 (by simp)
      rw [runL, if_neg (by simpa using this)]
    | succ k =>
      have hc := h1 0 (by simp) (by omega)
      rw [runL, if_pos (by simpa using hc)]
      have := runL_eq l k (by simpa using hk) (fun j hj hjk => by have := h1 (j + 1) (by simpa using hj) (by omega); simpa using this) (fun hk' => by have := h2 (by simpa using hk'); simpa using this)
      omega
theorem runL_full {f : UInt8 → Bool} : ∀ (l : List UInt8), (∀ x ∈ l, f x = true) → runL f l = l.length
  | [], _ => rfl
  | c :: l, h => by rw [runL, if_pos (h c (by simp)), runL_full l (fun x hx => h x (by simp [hx]))]; rfl
theorem runL_app {f : UInt8 → Bool} : ∀ (l r : List UInt8), (∀ x ∈ l, f x = true) → runL f (l ++ r) = l.length + runL f r
  | [], r, _ => by simp
  | c :: l, r, h => by
    rw [List.cons_append, runL, if_pos (h c (by simp)), runL_app l r (fun x hx => h x (by simp [hx]))]
    simp only [List.length_cons]; omega
theorem runL_take_all {f : UInt8 → Bool} (l : List UInt8) : ∀ x ∈ l.take (runL f l), f x = true := by
  intro x hx
  obtain ⟨i, hi, rfl⟩ := List.mem_iff_getElem.1 hx
  rw [List.length_take] at hi
  rw [List.getElem_take]
  exact runL_all l i (by omega) (by omega)
/-- What stands behind does not lengthen a run that has ended, nor does what can't go on with it. -/
theorem runL_cut {f : UInt8 → Bool} : ∀ (l r : List UInt8), (runL f l < l.length ∨ ∀ hr : 0 < r.length, f r[0] = false) → runL f (l ++ r) = runL f l
  | [], r, h => by
    rcases h with h | h
    · simp at h
    · cases r with
      | nil => rfl
      | cons c r =>
        have := h (by simp)
        have this : f c = false := this
        show runL f (c :: r) = 0
        simp [runL, this]
  | c :: l, r, h => by
    rw [List.cons_append, runL, runL]
    split
    · rename_i hc
      rw [runL_cut l r ?_]
      rcases h with h | h
      · rw [runL, if_pos hc] at h; left; simpa using h
      · exact .inr h
    · rfl
/-! ### Numbers -/
theorem decStep_eq (a : Nat) (c : UInt8) : decStep a c = a * 10 + (c.toNat - 48) := by unfold decStep; rfl
theorem decV_nil (a : Nat) : decV a [] = a := by unfold decV; exact List.foldl_nil
theorem decV_cons (a : Nat) (c : UInt8) (l : List UInt8) : decV a (c :: l) = decV (a * 10 + (c.toNat - 48)) l := by
  unfold decV; rw [List.foldl_cons, decStep_eq]
theorem decV_snoc (a : Nat) (l : List UInt8) (c : UInt8) : decV a (l ++ [c]) = decV a l * 10 + (c.toNat - 48) := by
  unfold decV; rw [List.foldl_append, List.foldl_cons, List.foldl_nil, decStep_eq]
theorem dig_bd {c : UInt8} (h : digB c = true) : 48 ≤ c.toNat ∧ c.toNat ≤ 57 := by
  unfold digB at h; simpa using h
theorem decV_lt : ∀ (l : List UInt8) (a k : Nat), (∀ x ∈ l, digB x = true) → a < 10 ^ k → decV a l < 10 ^ (l.length + k)
  | [], a, k, _, ha => by rw [List.length_nil, Nat.zero_add, decV_nil]; exact ha
  | c :: l, a, k, h, ha => by
    rw [decV_cons]
    have hc := dig_bd (h c (by simp))
    have := decV_lt l (a * 10 + (c.toNat - 48)) (k + 1) (fun x hx => h x (by simp [hx])) (by rw [Nat.pow_succ]; omega)
    rw [List.length_cons]
    rw [show l.length + 1 + k = l.length + (k + 1) from by omega]
    exact this
theorem pow18 (k : Nat) (hk : k ≤ 18) : 10 ^ k ≤ 10 ^ 18 := Nat.pow_le_pow_right (by decide) hk
theorem parseM_gen (M : Nat) (hM : 1000000000000000000 ≤ M) (l : List UInt8) : ∀ (a k : Nat), (∀ x ∈ l, digB x = true) → a < 10 ^ k → l.length + k ≤ 18 → Lib.parseUintM M a l = .ok (decV a l) := by
  induction l with
  | nil => intro a k _ _ _; rw [Lib.parseUintM, decV_nil]
  | cons c l ih =>
    intro a k h ha hk
    have hc := dig_bd (h c (by simp))
    simp only [List.length_cons] at hk
    have hp := pow18 (k + 1) (by omega)
    have h18 : 10 ^ 18 = 1000000000000000000 := by decide
    have hs : 10 ^ (k + 1) = 10 ^ k * 10 := Nat.pow_succ 10 k
    rw [Lib.parseUintM, if_pos hc, if_neg (by omega), if_neg (by omega), decV_cons]
    exact ih _ (k + 1) (fun x hx => h x (by simp [hx])) (by omega) (by omega)
theorem parseM_dec (l : List UInt8) (a k : Nat) (h : ∀ x ∈ l, digB x = true) (ha : a < 10 ^ k) (hk : l.length + k ≤ 18) : Lib.parseUintM (2 ^ 64 - 1) a l = .ok (decV a l) := parseM_gen _ (by decide) l a k h ha hk
theorem numFrom_le (l : List UInt8) : numFrom l ≤ 1 := by unfold numFrom; split <;> omega
/-- What a number is, and what it is made of. -/
theorem numP_ok {l : List UInt8} {kd : Nat} {t : List UInt8} {n : Int} {len : Nat} (h : numP l = .ok kd t n len) : ∃ D, 1 ≤ D ∧ D ≤ 18 ∧ len = numFrom l + D ∧ kd = 2 ∧ t = l.take len ∧ runL digB (l.drop (numFrom l)) = D ∧
    n = (if numFrom l = 1 then -1 else 1) * (decV 0 ((l.drop (numFrom l)).take D) : Int) ∧ ¬ ((l.getD (numFrom l) 0).toNat = 48 ∧ 1 < D) ∧ ¬ (len < l.length ∧ (letB (l.getD len 0) = true ∨ (l.getD len 0).toNat = 46)) := by
  unfold numP at h
  simp only at h
  split at h
  · cases h
  · split at h
    · cases h
    · split at h
      · cases h
      · split at h
        · cases h
        · rename_i h1 h2 h3 h4
          injection h with e1 e2 e3 e4
          refine ⟨runL digB (l.drop (numFrom l)), by omega, by omega, e4.symm, e1.symm, by rw [← e2, e4], rfl, ?_, fun h => h2 ⟨h.1, by omega⟩, by rw [← e4]; exact h3⟩
          rw [← e3, Nat.add_sub_cancel_left]
theorem parse_num {l : List UInt8} {kd : Nat} {t : List UInt8} {n : Int} {len : Nat} (h : numP l = .ok kd t n len) : Lib.parseIntB 64 t = .ok n := by
  obtain ⟨D, h1, h2, rfl, rfl, rfl, h6, rfl, _, _⟩ := numP_ok h
  have hrl := runL_le digB (l.drop (numFrom l))
  rw [h6, List.length_drop] at hrl
  have hall : ∀ x ∈ (l.drop (numFrom l)).take D, digB x = true := by rw [← h6]; exact runL_take_all _
  have hlen : ((l.drop (numFrom l)).take D).length = D := by rw [List.length_take, List.length_drop]; omega
  have hlt := decV_lt _ 0 0 hall (by decide)
  have hpm := parseM_dec _ 0 0 hall (by decide) (by omega)
  have hp := pow18 D h2
  rw [hlen, Nat.add_zero] at hlt
  obtain ⟨ds, hds⟩ : ∃ ds, (l.drop (numFrom l)).take D = ds := ⟨_, rfl⟩
  rw [hds] at hall hlen hlt hpm ⊢
  have hu : Lib.parseUintB 64 ds = .ok (decV 0 ds) := by
    unfold Lib.parseUintB
    rw [if_neg (by rintro rfl; simp at hlen; omega)]; exact hpm
  cases l with
  | nil => simp at hrl; omega
  | cons c r =>
    by_cases hc : c.toNat = 45
    · have hf : numFrom (c :: r) = 1 := by unfold numFrom; rw [if_pos (by simp [hc])]
      rw [hf] at hds ⊢
      simp only [List.drop_succ_cons, List.drop_zero] at hds
      rw [Nat.add_comm, List.take_succ_cons, hds]
      unfold Lib.parseIntB
      simp only
      rw [if_pos (.inr hc), hu]
      simp only
      rw [if_neg (by simp [hc]), if_neg (by omega), if_pos hc]
      simp
    · have hf : numFrom (c :: r) = 0 := by unfold numFrom; rw [if_neg (by simp [hc])]
      rw [hf] at hds ⊢
      simp only [List.drop_zero] at hds
      rw [Nat.zero_add, hds]
      cases ds with
      | nil => simp at hlen; omega
      | cons d ds =>
        have hd := dig_bd (hall d (by simp))
        unfold Lib.parseIntB
        simp only
        rw [if_neg (by omega), hu]
        simp only
        rw [if_neg (by omega), if_neg (by omega), if_neg (by omega)]
        simp
end Go.Proofs.YtgephneppgcnlaaGreatDoor
namespace Go.Proofs.YtgephneppgcnlaaGreatDoor
set_option linter.unusedVariables false
set_option linter.unusedSimpArgs false

theorem toks_ind {P : Nat → List UInt8 → Prop} (h0 : ∀ a, P a [])
    (hb : ∀ a c l, blkB c = true → P (a + 1) l → P a (c :: l))
    (hr : ∀ a c l, c.toNat = 35 → P (a + 1 + runL lineB l) (l.drop (runL lineB l)) → P a (c :: l))
    (hx : ∀ a c l off e, blkB c = false → c.toNat ≠ 35 → oneP (c :: l) = .bad off e → P a (c :: l))
    (ho : ∀ a c l k t n len, blkB c = false → c.toNat ≠ 35 → oneP (c :: l) = .ok k t n len → P (a + len) ((c :: l).drop len) → P a (c :: l)) :
    ∀ (m : Nat) (a : Nat) (l : List UInt8), l.length ≤ m → P a l
  | _, a, [], _ => h0 a
  | 0, _, _ :: _, h => by simp at h
  | m + 1, a, c :: l, h => by
    simp only [List.length_cons] at h
    by_cases h1 : blkB c = true
    · exact hb a c l h1 (toks_ind h0 hb hr hx ho m _ _ (by omega))
    by_cases h2 : c.toNat = 35
    · exact hr a c l h2 (toks_ind h0 hb hr hx ho m _ _ (by rw [List.length_drop]; omega))
    cases h3 : oneP (c :: l) with
    | bad off e => exact hx a c l off e (by simpa using h1) h2 h3
    | ok k t n len =>
      have := oneP_len h3
      exact ho a c l k t n len (by simpa using h1) h2 h3 (toks_ind h0 hb hr hx ho m _ _ (by rw [List.length_drop, List.length_cons]; omega))
theorem toksA_ind {P : Nat → List UInt8 → Prop} (h0 : ∀ a, P a [])
    (hb : ∀ a c l, blkB c = true → P (a + 1) l → P a (c :: l))
    (hr : ∀ a c l, c.toNat = 35 → P (a + 1 + runL lineB l) (l.drop (runL lineB l)) → P a (c :: l))
    (hx : ∀ a c l off e, blkB c = false → c.toNat ≠ 35 → oneP (c :: l) = .bad off e → P a (c :: l))
    (ho : ∀ a c l k t n len, blkB c = false → c.toNat ≠ 35 → oneP (c :: l) = .ok k t n len → P (a + len) ((c :: l).drop len) → P a (c :: l)) (a : Nat) (l : List UInt8) : P a l :=
  toks_ind h0 hb hr hx ho l.length a l (Nat.le_refl _)
theorem Out.cons_ok {t : Tok} {o : Out} {ts : List Tok} (h : o.cons t = .ok ts) : ∃ us, o = .ok us ∧ ts = t :: us := by
  cases o with
  | ok us => injection h with h; exact ⟨us, rfl, h.symm⟩
  | bad a e => cases h
theorem Out.cons_bad {t : Tok} {o : Out} {a e : Nat} (h : o.cons t = .bad a e) : o = .bad a e := by
  cases o with
  | ok us => cases h
  | bad a' e' => exact h
theorem toks_ok {s : List UInt8} {ts : List Tok} (h : toks s = .ok ts) : s.length ≤ 2000 ∧ toksA 0 s = .ok ts := by
  unfold toks at h
  split at h
  · cases h
  · exact ⟨by omega, h⟩
theorem toks_short {s : List UInt8} (h : s.length ≤ 2000) : toks s = toksA 0 s := by unfold toks; rw [if_neg (by omega)]
/-- There is a token, and each stands in the text. -/
theorem toksA_at : ∀ (a : Nat) (l : List UInt8), ∀ ts, toksA a l = .ok ts → 0 < ts.length ∧ ∀ t ∈ ts, a ≤ t.at_ ∧ t.at_ ≤ a + l.length := by
  refine toksA_ind ?_ ?_ ?_ ?_ ?_
  · intro a ts h
    rw [toksA_nil] at h; injection h with h; subst h
    exact ⟨by simp, fun t ht => by simp at ht; subst ht; simp⟩
  · intro a c l hb ih ts h
    rw [toksA_blk a hb] at h
    obtain ⟨h1, h2⟩ := ih ts h
    exact ⟨h1, fun t ht => by have := h2 t ht; simp only [List.length_cons]; omega⟩
  · intro a c l hr ih ts h
    rw [toksA_rem a hr] at h
    obtain ⟨h1, h2⟩ := ih ts h
    refine ⟨h1, fun t ht => ?_⟩
    have := h2 t ht
    have hl := runL_le lineB l
    rw [List.length_drop] at this
    simp only [List.length_cons]; omega
  · intro a c l off e hb hr hx ts h
    rw [toksA_bad a hb hr hx] at h; cases h
  · intro a c l k t n len hb hr ho ih ts h
    rw [toksA_one a hb hr ho] at h
    obtain ⟨us, hu, rfl⟩ := Out.cons_ok h
    obtain ⟨h1, h2⟩ := ih us hu
    have hl := oneP_len ho
    refine ⟨by simp, fun t ht => ?_⟩
    rcases List.mem_cons.1 ht with rfl | ht
    · exact ⟨Nat.le_refl _, by simp⟩
    · have := h2 t ht
      rw [List.length_drop] at this
      omega
theorem toks_at {s : List UInt8} {ts : List Tok} (h : toks s = .ok ts) : 0 < ts.length ∧ ∀ t ∈ ts, t.at_ ≤ s.length := by
  obtain ⟨h1, h2⟩ := toks_ok h
  obtain ⟨h3, h4⟩ := toksA_at 0 s ts h2
  exact ⟨h3, fun t ht => by have := h4 t ht; omega⟩
end Go.Proofs.YtgephneppgcnlaaGreatDoor
namespace Go.Proofs.YtgephneppgcnlaaGreatDoor
set_option linter.unusedVariables false
set_option linter.unusedSimpArgs false

theorem oneP_cons (c : UInt8) (l : List UInt8) : oneP (c :: l) =
    if letB c then (if 32 < runL ldB (c :: l) then .bad 0 2 else .ok 1 ((c :: l).take (runL ldB (c :: l))) 0 (runL ldB (c :: l)))
    else if c.toNat = 45 ∨ digB c = true then numP (c :: l)
    else if c.toNat = 34 then txtP [] 1 l
    else if dotsB (c :: l) then .ok 4 [46, 46, 46] 0 3
    else if signB c then .ok 4 [c] 0 1
    else .bad 0 4 := rfl
theorem numP_eq {l : List UInt8} {f r : Nat} (hf : numFrom l = f) (hr : runL digB (l.drop f) = r) : numP l =
    if f + r = f then .bad (f + r) 4
    else if (l.getD f 0).toNat = 48 ∧ f + 1 < f + r then .bad (f + 1) 4
    else if f + r < l.length ∧ (letB (l.getD (f + r) 0) = true ∨ (l.getD (f + r) 0).toNat = 46) then .bad (f + r) 4
    else if 18 < r then .bad 0 1
    else .ok 2 (l.take (f + r)) ((if f = 1 then -1 else 1) * (decV 0 ((l.drop f).take r) : Int)) (f + r) := by
  subst hf; subst hr
  unfold numP
  simp only [Nat.add_sub_cancel_left]
theorem txtP_qq (acc : List UInt8) (k : Nat) {c : UInt8} (l : List UInt8) (h : c.toNat = 34) : txtP acc k (c :: l) = if 200 < acc.length then .bad 0 2 else .ok 3 acc 0 (k + 1) := by rw [txtP.eq_def]; simp only; rw [if_pos h]
theorem txtP_nn (acc : List UInt8) (k : Nat) {c : UInt8} (l : List UInt8) (h : c.toNat = 10) : txtP acc k (c :: l) = .bad k 4 := by rw [txtP.eq_def]; simp only; rw [if_neg (by omega), if_pos h]
theorem txtP_ee0 (acc : List UInt8) (k : Nat) {c : UInt8} (h : c.toNat = 92) : txtP acc k [c] = .bad (k + 1) 4 := by rw [txtP.eq_def]; simp only; rw [if_neg (by omega), if_neg (by omega), if_pos h]
def escY (d : UInt8) : Option UInt8 := if d.toNat = 34 ∨ d.toNat = 92 ∨ d.toNat = 47 then some d else if d.toNat = 110 then some 10 else if d.toNat = 116 then some 9 else none
theorem txtP_ee (acc : List UInt8) (k : Nat) {c : UInt8} (d : UInt8) (l : List UInt8) (h : c.toNat = 92) : txtP acc k (c :: d :: l) = match escY d with | some x => txtP (acc ++ [x]) (k + 2) l | none => .bad (k + 1) 4 := by
  rw [txtP.eq_def]; simp only; rw [if_neg (by omega), if_neg (by omega), if_pos h]
  unfold escY
  split
  · rfl
  · split
    · rfl
    · split <;> rfl
theorem txtP_oo (acc : List UInt8) (k : Nat) {c : UInt8} (l : List UInt8) (h1 : c.toNat ≠ 34) (h2 : c.toNat ≠ 10) (h3 : c.toNat ≠ 92) : txtP acc k (c :: l) = txtP (acc ++ [c]) (k + 1) l := by rw [txtP.eq_def]; simp only; rw [if_neg h1, if_neg h2, if_neg h3]
theorem txtP_nil' (acc : List UInt8) (k : Nat) : txtP acc k [] = .bad k 4 := by rw [txtP.eq_def]
/-- A text that has ended is what it is, whatever follows. -/
theorem txtP_app (x : List UInt8) : ∀ (m : Nat) (l acc : List UInt8) (k : Nat) {kd : Nat} {t : List UInt8} {n : Int} {len : Nat}, l.length ≤ m → txtP acc k l = .ok kd t n len → txtP acc k (l ++ x) = .ok kd t n len
  | _, [], acc, k, kd, t, n, len, _, h => by rw [txtP_nil'] at h; cases h
  | 0, _ :: _, _, _, _, _, _, _, hn, _ => by simp at hn
  | m + 1, c :: l, acc, k, kd, t, n, len, hn, h => by
    simp only [List.length_cons] at hn
    rw [List.cons_append]
    by_cases h1 : c.toNat = 34
    · rw [txtP_qq _ _ _ h1] at h ⊢; exact h
    by_cases h2 : c.toNat = 10
    · rw [txtP_nn _ _ _ h2] at h; cases h
    by_cases h3 : c.toNat = 92
    · cases l with
      | nil => rw [txtP_ee0 _ _ h3] at h; cases h
      | cons d l =>
        rw [List.cons_append, txtP_ee _ _ _ _ h3]
        rw [txtP_ee _ _ _ _ h3] at h
        simp only [List.length_cons] at hn
        split at h
        · exact txtP_app x m l _ _ (by omega) h
        · cases h
    rw [txtP_oo _ _ _ h1 h2 h3] at h ⊢
    exact txtP_app x m l _ _ (by omega) h
theorem getD_left (l r : List UInt8) (i : Nat) (h : i < l.length) : (l ++ r).getD i 0 = l.getD i 0 := by
  rw [List.getD_eq_getElem?_getD, List.getD_eq_getElem?_getD, List.getElem?_append_left h]
theorem getD_right (l : List UInt8) (g : UInt8) (r : List UInt8) : (l ++ g :: r).getD l.length 0 = g := by
  rw [List.getD_eq_getElem?_getD, List.getElem?_append_right (Nat.le_refl _)]; simp
theorem ldB_no {g : UInt8} (h : ldB g = false) : letB g = false ∧ digB g = false := by unfold ldB at h; simpa using h
theorem numP_sep {l : List UInt8} (r : List UInt8) {g : UInt8} (hg : ldB g = false) (hg2 : g.toNat ≠ 46) (hl : l ≠ []) {kd : Nat} {t : List UInt8} {n : Int} {len : Nat} (h : numP l = .ok kd t n len) : numP (l ++ g :: r) = .ok kd t n len := by
  obtain ⟨f, hf⟩ : ∃ f, numFrom l = f := ⟨_, rfl⟩
  obtain ⟨q, hq⟩ : ∃ q, runL digB (l.drop f) = q := ⟨_, rfl⟩
  have hf1 : f ≤ 1 := by rw [← hf]; exact numFrom_le l
  have h1 : 1 ≤ l.length := by cases l with | nil => exact absurd rfl hl | cons => simp
  have hf' : numFrom (l ++ g :: r) = f := by
    rw [← hf]; unfold numFrom
    cases l with | nil => exact absurd rfl hl | cons => rfl
  have hq' : runL digB ((l ++ g :: r).drop f) = q := by
    rw [List.drop_append_of_le_length (by omega), runL_cut _ _ (.inr fun _ => (ldB_no hg).2), hq]
  have hql := runL_le digB (l.drop f)
  rw [hq, List.length_drop] at hql
  rw [numP_eq hf hq] at h
  rw [numP_eq hf' hq']
  by_cases c1 : f + q = f
  · rw [if_pos c1] at h; cases h
  rw [if_neg c1] at h ⊢
  rw [getD_left _ _ _ (by omega)]
  by_cases c2 : (l.getD f 0).toNat = 48 ∧ f + 1 < f + q
  · rw [if_pos c2] at h; cases h
  rw [if_neg c2] at h ⊢
  by_cases c3 : f + q < l.length ∧ (letB (l.getD (f + q) 0) = true ∨ (l.getD (f + q) 0).toNat = 46)
  · rw [if_pos c3] at h; cases h
  have c3' : ¬ (f + q < (l ++ g :: r).length ∧ (letB ((l ++ g :: r).getD (f + q) 0) = true ∨ ((l ++ g :: r).getD (f + q) 0).toNat = 46)) := by
    rintro ⟨_, hb⟩
    by_cases hlt : f + q < l.length
    · rw [getD_left _ _ _ hlt] at hb; exact c3 ⟨hlt, hb⟩
    · have e : f + q = l.length := by omega
      rw [e, getD_right] at hb
      rcases hb with hb | hb
      · rw [(ldB_no hg).1] at hb; cases hb
      · exact hg2 hb
  rw [if_neg c3] at h
  rw [if_neg c3']
  rw [List.take_append_of_le_length (by omega), List.drop_append_of_le_length (by omega), List.take_append_of_le_length (by rw [List.length_drop]; omega)]
  exact h
theorem sign_nodot {c : UInt8} (h : signB c = true) : c.toNat ≠ 46 := by
  unfold signB at h
  intro e
  rw [e] at h
  exact absurd h (by decide)
theorem dots_first {c : UInt8} (l : List UInt8) (h : c.toNat ≠ 46) : dotsB (c :: l) = false := by
  unfold dotsB
  apply decide_eq_false
  intro e
  simp at e
  exact h e.1
theorem dots_len {l : List UInt8} (h : dotsB l = true) : 3 ≤ l.length := by
  unfold dotsB at h
  have := congrArg List.length (of_decide_eq_true h)
  simp at this; omega
theorem dots_left {l : List UInt8} (r : List UInt8) (h : dotsB l = true) : dotsB (l ++ r) = true := by
  have := dots_len h
  unfold dotsB at h ⊢
  rw [List.take_append_of_le_length (by omega)]; exact h
/-- A token is what it is, whatever follows behind something that no name, number or dots go on with. -/
theorem oneP_sep {l : List UInt8} (r : List UInt8) {g : UInt8} (hg : ldB g = false) (hg2 : g.toNat ≠ 46) {kd : Nat} {t : List UInt8} {n : Int} {len : Nat} (h : oneP l = .ok kd t n len) : oneP (l ++ g :: r) = .ok kd t n len := by
  cases l with
  | nil => cases h
  | cons c l =>
    rw [List.cons_append, oneP_cons]
    rw [oneP_cons] at h
    by_cases h1 : letB c = true
    · rw [if_pos h1] at h ⊢
      have e : runL ldB (c :: (l ++ g :: r)) = runL ldB (c :: l) := by
        rw [← List.cons_append, runL_cut _ _ (.inr fun _ => hg)]
      have hle := runL_le ldB (c :: l)
      rw [e, ← List.cons_append, List.take_append_of_le_length hle]
      exact h
    rw [if_neg h1] at h ⊢
    by_cases h2 : c.toNat = 45 ∨ digB c = true
    · rw [if_pos h2] at h ⊢
      have := numP_sep r hg hg2 (by simp) h
      rw [List.cons_append] at this; exact this
    rw [if_neg h2] at h ⊢
    by_cases h3 : c.toNat = 34
    · rw [if_pos h3] at h ⊢; exact txtP_app _ _ _ _ _ (Nat.le_refl _) h
    rw [if_neg h3] at h ⊢
    by_cases h4 : dotsB (c :: l) = true
    · rw [if_pos h4] at h
      have := dots_left (g :: r) h4
      rw [List.cons_append] at this
      rw [if_pos this]; exact h
    rw [if_neg h4] at h
    by_cases h5 : signB c = true
    · rw [if_pos h5] at h
      rw [if_neg (by rw [dots_first _ (sign_nodot h5)]; decide), if_pos h5]; exact h
    · rw [if_neg h5] at h; cases h
theorem Out.cons_app (ts : List Tok) (t : Tok) (o : Out) : (o.app ts).cons t = o.app (t :: ts) := by cases o <;> rfl
theorem dropLast_cons {t : Tok} {us : List Tok} (h : 0 < us.length) : (t :: us).dropLast = t :: us.dropLast := by
  cases us with
  | nil => simp at h
  | cons => rfl
/-- An end of line behind a text: the tokens of both. -/
theorem toksA_sep : ∀ (a : Nat) (l : List UInt8), ∀ ts, toksA a l = .ok ts → ∀ r, toksA a (l ++ 10 :: r) = (toksA (a + l.length + 1) r).app ts.dropLast := by
  refine toksA_ind ?_ ?_ ?_ ?_ ?_
  · intro a ts h r
    rw [toksA_nil] at h; injection h with h; subst h
    rw [List.nil_append, toksA_blk a (by decide)]
    simp [Out.app_nil]
  · intro a c l hb ih ts h r
    rw [toksA_blk a hb] at h
    rw [List.cons_append, toksA_blk a hb, ih ts h r, List.length_cons]
    congr 2 <;> omega
  · intro a c l hr ih ts h r
    rw [toksA_rem a hr] at h
    have hle := runL_le lineB l
    have e : runL lineB (l ++ 10 :: r) = runL lineB l := runL_cut _ _ (.inr fun _ => rfl)
    rw [List.cons_append, toksA_rem a hr, e, List.drop_append_of_le_length hle, ih ts h r, List.length_cons, List.length_drop]
    congr 2 <;> omega
  · intro a c l off e hb hr hx ts h
    rw [toksA_bad a hb hr hx] at h; cases h
  · intro a c l k t n len hb hr ho ih ts h r
    rw [toksA_one a hb hr ho] at h
    obtain ⟨us, hu, rfl⟩ := Out.cons_ok h
    have hl := oneP_len ho
    have hn := (toksA_at _ _ us hu).1
    have hs := oneP_sep r (g := 10) (by decide) (by decide) ho
    rw [List.cons_append] at hs ⊢
    rw [toksA_one a hb hr hs, ← List.cons_append, List.drop_append_of_le_length hl.2, ih us hu r, Out.cons_app, dropLast_cons hn, List.length_drop]
    congr 2 <;> omega
def Tok.upp (n : Nat) (t : Tok) : Tok := ⟨t.kind, t.text, t.n, t.at_ + n⟩
def Out.up (n : Nat) : Out → Out
  | .ok ts => .ok (ts.map (Tok.upp n))
  | .bad a e => .bad (a + n) e
theorem Out.up_cons (n : Nat) (t : Tok) (o : Out) : (o.cons t).up n = (o.up n).cons (t.upp n) := by cases o <;> rfl
/-- Tokens further on. -/
theorem toksA_up (n : Nat) : ∀ (a : Nat) (l : List UInt8), toksA (a + n) l = (toksA a l).up n := by
  refine toksA_ind ?_ ?_ ?_ ?_ ?_
  · intro a; rfl
  · intro a c l hb ih
    rw [toksA_blk _ hb, toksA_blk _ hb, ← ih]; congr 1; omega
  · intro a c l hr ih
    rw [toksA_rem _ hr, toksA_rem _ hr, ← ih]; congr 1; omega
  · intro a c l off e hb hr hx
    rw [toksA_bad _ hb hr hx, toksA_bad _ hb hr hx]
    unfold Out.up; congr 1; omega
  · intro a c l k t m len hb hr ho ih
    rw [toksA_one _ hb hr ho, toksA_one _ hb hr ho, Out.up_cons, ← ih]
    congr 2 <;> omega
theorem toks_join {a b : List UInt8} {ts : List Tok} (ha : toks a = .ok ts) (hl : a.length + b.length ≤ 1999) : toks (a ++ 10 :: b) = ((toks b).up (a.length + 1)).app ts.dropLast := by
  rw [toks_short (by simp; omega), toks_short (s := b) (by omega), toksA_sep 0 a ts (toks_ok ha).2 b, ← toksA_up]
  congr 2 <;> omega
/-! ### Blanks ahead -/
def gapL (n : Nat) : List UInt8 := match n with | 0 => [32] | 1 => [9] | 2 => [10] | 3 => [13] | 4 => [44] | _ => [35, 32, 120, 32, 123, 32, 34, 10]
theorem toksA_gap (n a : Nat) (l : List UInt8) : toksA a (gapL n ++ l) = toksA (a + (gapL n).length) l := by
  match n with
  | 0 => exact toksA_blk a (by decide)
  | 1 => exact toksA_blk a (by decide)
  | 2 => exact toksA_blk a (by decide)
  | 3 => exact toksA_blk a (by decide)
  | 4 => exact toksA_blk a (by decide)
  | n + 5 =>
    show toksA a (35 :: ([32, 120, 32, 123, 32, 34] ++ 10 :: l)) = toksA (a + 8) l
    have e : runL lineB ([32, 120, 32, 123, 32, 34] ++ 10 :: l) = 6 := by
      rw [runL_cut _ _ (.inr fun _ => rfl)]; decide
    rw [toksA_rem a (by decide), e]
    show toksA (a + 1 + 6) (10 :: l) = _
    rw [toksA_blk _ (by decide)]
theorem gap_len (n : Nat) : 1 ≤ (gapL n).length ∧ (gapL n).length ≤ 8 := by
  unfold gapL; split <;> decide
def aheadL (p : List Nat) : List UInt8 := p.flatMap fun n => gapL (n % 6)
theorem ahead_len : ∀ p : List Nat, (aheadL p).length ≤ 8 * p.length
  | [] => by simp [aheadL]
  | n :: p => by
    have := ahead_len p
    have h := (gap_len (n % 6)).2
    unfold aheadL at this ⊢
    rw [List.flatMap_cons, List.length_append, List.length_cons]; omega
theorem toksA_ahead : ∀ (p : List Nat) (a : Nat) (l : List UInt8), toksA a (aheadL p ++ l) = toksA (a + (aheadL p).length) l
  | [], a, l => rfl
  | n :: p, a, l => by
    unfold aheadL
    rw [List.flatMap_cons, List.append_assoc, toksA_gap, List.length_append, ← Nat.add_assoc]
    exact toksA_ahead p _ l
theorem toks_ahead {p : List Nat} {s : List UInt8} (h : (aheadL p).length + s.length ≤ 2000) : toks (aheadL p ++ s) = (toks s).up (aheadL p).length := by
  rw [toks_short (by simp; omega), toks_short (s := s) (by omega), toksA_ahead, ← toksA_up]
theorem ahead_snoc (p : List Nat) (n : Nat) : aheadL (p ++ [n]) = aheadL p ++ gapL (n % 6) := by
  unfold aheadL; rw [List.flatMap_append]; simp
end Go.Proofs.YtgephneppgcnlaaGreatDoor
namespace Go.Proofs.YtgephneppgcnlaaGreatDoor
set_option linter.unusedVariables false
set_option linter.unusedSimpArgs false

/-! ### Tokens stand in the text -/
theorem numP_take {l : List UInt8} {kd : Nat} {t : List UInt8} {n : Int} {len : Nat} (h : numP l = .ok kd t n len) : kd = 2 ∧ t = l.take len := by
  obtain ⟨D, _, _, _, h1, h2, _⟩ := numP_ok h
  exact ⟨h1, h2⟩
theorem dots_take {l : List UInt8} (h : dotsB l = true) : l.take 3 = [46, 46, 46] := by
  unfold dotsB at h
  have h := of_decide_eq_true h
  have h2 := dots_len (l := l) (by unfold dotsB; exact decide_eq_true h)
  match l, h2 with
  | a :: b :: c :: l, _ =>
    simp at h
    obtain ⟨h1, h2, h3⟩ := h
    have e1 : a = 46 := UInt8.toNat_inj.1 (by simpa using h1)
    have e2 : b = 46 := UInt8.toNat_inj.1 (by simpa using h2)
    have e3 : c = 46 := UInt8.toNat_inj.1 (by simpa using h3)
    subst e1; subst e2; subst e3; rfl
theorem oneP_text {l : List UInt8} {kd : Nat} {t : List UInt8} {n : Int} {len : Nat} (h : oneP l = .ok kd t n len) : 1 ≤ kd ∧ kd ≤ 4 ∧ (kd = 3 ∨ t = l.take len) := by
  cases l with
  | nil => cases h
  | cons c l =>
    rw [oneP_cons] at h
    by_cases h1 : letB c = true
    · rw [if_pos h1] at h
      split at h
      · cases h
      · injection h with e1 e2 e3 e4
        exact ⟨by omega, by omega, .inr (by rw [← e2, ← e4])⟩
    rw [if_neg h1] at h
    by_cases h2 : c.toNat = 45 ∨ digB c = true
    · rw [if_pos h2] at h
      have := numP_take h
      exact ⟨by omega, by omega, .inr this.2⟩
    rw [if_neg h2] at h
    by_cases h3 : c.toNat = 34
    · rw [if_pos h3] at h
      have := (txtP_len _ _ _ h).2.2.1
      exact ⟨by omega, by omega, .inl this⟩
    rw [if_neg h3] at h
    by_cases h4 : dotsB (c :: l) = true
    · rw [if_pos h4] at h
      injection h with e1 e2 e3 e4
      exact ⟨by omega, by omega, .inr (by rw [← e4, dots_take h4, e2])⟩
    rw [if_neg h4] at h
    by_cases h5 : signB c = true
    · rw [if_pos h5] at h
      injection h with e1 e2 e3 e4
      exact ⟨by omega, by omega, .inr (by rw [← e4, ← e2]; rfl)⟩
    · rw [if_neg h5] at h; cases h
/-- What is told of tokens: the last is the end, and it alone; they rise; each but texts stands there. -/
structure Stand (a : Nat) (l : List UInt8) (ts : List Tok) : Prop where
  one : 0 < ts.length
  kinds : ∀ i (h : i < ts.length), (ts[i].kind = 0 ↔ i = ts.length - 1) ∧ ts[i].kind ≤ 4
  rise : ∀ i (h : i + 1 < ts.length), ts[i].at_ < ts[i + 1].at_
  there : ∀ i (h : i < ts.length), a ≤ ts[i].at_ ∧ ts[i].at_ ≤ a + l.length ∧ (ts[i].kind ≠ 3 → ts[i].kind ≠ 0 → (l.drop (ts[i].at_ - a)).take ts[i].text.length = ts[i].text)
  last : ∀ h : ts.length - 1 < ts.length, ts[ts.length - 1].at_ = a + l.length
theorem Stand.far {a b : Nat} {l m : List UInt8} {ts : List Tok} (h : Stand b m ts) (hb : a ≤ b) (hl : m = l.drop (b - a)) (hbl : b - a ≤ l.length) : Stand a l ts := by
  have hm : m.length = l.length - (b - a) := by rw [hl, List.length_drop]
  refine ⟨h.one, h.kinds, h.rise, fun i hi => ?_, fun hi => by rw [h.last hi, hm]; omega⟩
  obtain ⟨h1, h2, h3⟩ := h.there i hi
  refine ⟨by omega, by omega, fun k1 k2 => ?_⟩
  have := h3 k1 k2
  rw [hl, List.drop_drop] at this
  rw [show ts[i].at_ - a = b - a + (ts[i].at_ - b) from by omega]; exact this
theorem toksA_stand : ∀ (a : Nat) (l : List UInt8), ∀ ts, toksA a l = .ok ts → Stand a l ts := by
  refine toksA_ind ?_ ?_ ?_ ?_ ?_
  · intro a ts h
    rw [toksA_nil] at h; injection h with h; subst h
    exact ⟨by simp, fun i h => by simp at h; subst h; simp, fun i h => by simp at h, fun i h => by simp at h; subst h; simp, fun h => by simp⟩
  · intro a c l hb ih ts h
    rw [toksA_blk a hb] at h
    exact (ih ts h).far (by omega) (by rw [Nat.add_sub_cancel_left]; rfl) (by simp)
  · intro a c l hr ih ts h
    rw [toksA_rem a hr] at h
    have hl := runL_le lineB l
    refine (ih ts h).far (by omega) ?_ (by simp; omega)
    rw [show a + 1 + runL lineB l - a = runL lineB l + 1 from by omega]; rfl
  · intro a c l off e hb hr hx ts h
    rw [toksA_bad a hb hr hx] at h; cases h
  · intro a c l k t n len hb hr ho ih ts h
    rw [toksA_one a hb hr ho] at h
    obtain ⟨us, hu, rfl⟩ := Out.cons_ok h
    have hl := oneP_len ho
    have S := (ih us hu).far (a := a) (l := c :: l) (by omega) (by rw [Nat.add_sub_cancel_left]) (by omega)
    have S1 := ih us hu
    obtain ⟨k1, k2, k3⟩ := oneP_text ho
    have hus := S.one
    refine ⟨by simp, fun i hi => ?_, fun i hi => ?_, fun i hi => ?_, fun hi => ?_⟩
    · cases i with
      | zero => simp; omega
      | succ i =>
        have := S.kinds i (by simpa using hi)
        simp only [List.getElem_cons_succ, List.length_cons]
        refine ⟨?_, this.2⟩
        rw [this.1]; omega
    · cases i with
      | zero =>
        have := (S1.there 0 hus).1
        simp only [List.getElem_cons_succ, List.getElem_cons_zero]; omega
      | succ i =>
        have := S.rise i (by simpa using hi)
        simp only [List.getElem_cons_succ]; exact this
    · cases i with
      | zero =>
        simp only [List.getElem_cons_zero]
        refine ⟨Nat.le_refl _, by omega, fun n3 _ => ?_⟩
        rcases k3 with h | h
        · exact absurd h n3
        · rw [Nat.sub_self, List.drop_zero, h, List.length_take, Nat.min_eq_left hl.2]
      | succ i =>
        have := S.there i (by simpa using hi)
        simp only [List.getElem_cons_succ]; exact this
    · simp only [List.length_cons, Nat.add_sub_cancel]
      have := S.last (by omega)
      rw [List.getElem_cons]
      split
      · omega
      · exact this
theorem toks_stand {s : List UInt8} {ts : List Tok} (h : toks s = .ok ts) : Stand 0 s ts := toksA_stand 0 s ts (toks_ok h).2

/-! ### Tokens written anew -/
theorem runL_take_self (f : UInt8 → Bool) (l : List UInt8) : runL f (l.take (runL f l)) = runL f l := by
  rw [runL_full _ (runL_take_all l), List.length_take, Nat.min_eq_left (runL_le f l)]
theorem numP_self {l : List UInt8} {kd : Nat} {t : List UInt8} {n : Int} {len : Nat} (h : numP l = .ok kd t n len) (hl : l ≠ []) : numP (l.take len) = .ok kd t n len := by
  obtain ⟨D, d1, d2, d3, d4, d5, d6, d7, d8, d9⟩ := numP_ok h
  obtain ⟨f, hf⟩ : ∃ f, numFrom l = f := ⟨_, rfl⟩
  rw [hf] at d3 d6 d7 d8
  have hf1 : f ≤ 1 := by rw [← hf]; exact numFrom_le l
  have hD := runL_le digB (l.drop f)
  rw [d6, List.length_drop] at hD
  have hf' : numFrom (l.take len) = f := by
    rw [← hf]; unfold numFrom
    cases l with
    | nil => exact absurd rfl hl
    | cons c l =>
      obtain ⟨m, hm⟩ : ∃ m, len = m + 1 := ⟨len - 1, by omega⟩
      rw [hm, List.take_succ_cons]; rfl
  have hq : runL digB ((l.take len).drop f) = D := by
    rw [List.drop_take, d3, Nat.add_sub_cancel_left, ← d6]; exact runL_take_self _ _
  have hg : ∀ i, i < len → (l.take len).getD i 0 = l.getD i 0 := fun i hi => by
    rw [List.getD_eq_getElem?_getD, List.getD_eq_getElem?_getD, List.getElem?_take, if_pos hi]
  rw [numP_eq hf' hq, if_neg (by omega), hg f (by omega), if_neg (by rintro ⟨x, y⟩; exact d8 ⟨x, by omega⟩), if_neg (by rintro ⟨x, _⟩; rw [List.length_take] at x; omega), if_neg (by omega)]
  rw [d4, d5, d7, ← d3, List.take_take, Nat.min_self, List.drop_take, List.take_take, show min D (len - f) = D from by omega]
theorem oneP_self {l : List UInt8} {kd : Nat} {t : List UInt8} {n : Int} {len : Nat} (h : oneP l = .ok kd t n len) (h3 : kd ≠ 3) : oneP (l.take len) = .ok kd t n len := by
  have hlen := oneP_len h
  cases l with
  | nil => cases h
  | cons c l =>
    obtain ⟨m, hm⟩ : ∃ m, len = m + 1 := ⟨len - 1, by omega⟩
    have etk : (c :: l).take len = c :: l.take m := by rw [hm, List.take_succ_cons]
    rw [etk, oneP_cons]
    rw [oneP_cons] at h
    by_cases h1 : letB c = true
    · rw [if_pos h1] at h ⊢
      split at h
      · cases h
      · rename_i h32
        injection h with e1 e2 e3 e4
        rw [← etk, ← e4, runL_take_self, if_neg h32, List.take_take, Nat.min_self, e1, e2, e3]
    rw [if_neg h1] at h ⊢
    by_cases h2 : c.toNat = 45 ∨ digB c = true
    · rw [if_pos h2] at h ⊢
      rw [← etk]; exact numP_self h (by simp)
    rw [if_neg h2] at h ⊢
    by_cases h3' : c.toNat = 34
    · rw [if_pos h3'] at h
      exact absurd (txtP_len _ _ _ h).2.2.1 h3
    rw [if_neg h3'] at h ⊢
    by_cases h4 : dotsB (c :: l) = true
    · rw [if_pos h4] at h
      injection h with e1 e2 e3 e4
      have := dots_take h4
      rw [← etk, ← e4, this, if_pos (by decide), e1, e2, e3]
    rw [if_neg h4] at h
    by_cases h5 : signB c = true
    · rw [if_pos h5] at h
      rw [if_neg (by rw [dots_first _ (sign_nodot h5)]; decide), if_pos h5]; exact h
    · rw [if_neg h5] at h; cases h
def flatT (ts : List Tok) : List UInt8 := ts.flatMap fun t => t.text ++ [32]
theorem flatT_cons (t : Tok) (ts : List Tok) : flatT (t :: ts) = t.text ++ 32 :: flatT ts := by unfold flatT; rw [List.flatMap_cons, List.append_assoc]; rfl
theorem flatT_snoc (ts : List Tok) (t : Tok) : flatT (ts ++ [t]) = flatT ts ++ (t.text ++ [32]) := by unfold flatT; rw [List.flatMap_append]; simp
def likeT (t u : Tok) : Prop := t.kind = u.kind ∧ t.text = u.text ∧ t.n = u.n
def LikeT : List Tok → List Tok → Prop
  | [], [] => True
  | t :: ts, u :: us => likeT t u ∧ LikeT ts us
  | _, _ => False
theorem LikeT.len : ∀ {ts us : List Tok}, LikeT ts us → us.length = ts.length
  | [], [], _ => rfl
  | t :: ts, u :: us, h => by simp only [List.length_cons]; rw [LikeT.len h.2]
theorem LikeT.get : ∀ {ts us : List Tok}, LikeT ts us → ∀ i (h1 : i < ts.length) (h2 : i < us.length), likeT ts[i] us[i]
  | [], [], _, i, h1, _ => absurd h1 (by simp)
  | t :: ts, u :: us, h, 0, _, _ => h.1
  | t :: ts, u :: us, h, i + 1, h1, h2 => LikeT.get h.2 i (by simpa using h1) (by simpa using h2)
theorem toksA_again : ∀ (a : Nat) (l : List UInt8), ∀ ts, toksA a l = .ok ts → (∀ t ∈ ts, t.kind ≠ 3) → (flatT ts).length ≤ 2 * l.length + 1 ∧ ∀ b, ∃ us, toksA b (flatT ts) = .ok us ∧ LikeT ts us := by
  refine toksA_ind ?_ ?_ ?_ ?_ ?_
  · intro a ts h _
    rw [toksA_nil] at h; injection h with h; subst h
    refine ⟨by simp [flatT], fun b => ⟨[⟨0, [], 0, b + 1⟩], ?_, ⟨rfl, rfl, rfl⟩, trivial⟩⟩
    show toksA b [32] = _
    rw [toksA_blk b (by decide), toksA_nil]
  · intro a c l hb ih ts h h3
    rw [toksA_blk a hb] at h
    have := ih ts h h3
    exact ⟨by simp only [List.length_cons]; omega, this.2⟩
  · intro a c l hr ih ts h h3
    rw [toksA_rem a hr] at h
    have := ih ts h h3
    rw [List.length_drop] at this
    exact ⟨by simp only [List.length_cons]; omega, this.2⟩
  · intro a c l off e hb hr hx ts h _
    rw [toksA_bad a hb hr hx] at h; cases h
  · intro a c l k t n len hb hr ho ih ts h h3
    rw [toksA_one a hb hr ho] at h
    obtain ⟨us, hu, rfl⟩ := Out.cons_ok h
    have hl := oneP_len ho
    have hk : k ≠ 3 := h3 ⟨k, t, n, a⟩ (by simp)
    obtain ⟨i1, i2⟩ := ih us hu (fun u hu' => h3 u (by simp [hu']))
    have ht := (oneP_text ho).2.2.resolve_left hk
    have hs := oneP_sep (flatT us) (g := 32) (by decide) (by decide) (oneP_self ho hk)
    rw [← ht] at hs
    have htl : t.length = len := by rw [ht, List.length_take, Nat.min_eq_left hl.2]
    rw [List.length_drop] at i1
    refine ⟨by rw [flatT_cons, List.length_append, List.length_cons]; simp only [htl]; omega, fun b => ?_⟩
    obtain ⟨vs, hv1, hv2⟩ := i2 (b + len + 1)
    refine ⟨⟨k, t, n, b⟩ :: vs, ?_, ⟨rfl, rfl, rfl⟩, hv2⟩
    rw [flatT_cons]
    show toksA b (t ++ 32 :: flatT us) = _
    obtain ⟨m, hm⟩ : ∃ m, len = m + 1 := ⟨len - 1, by omega⟩
    have e : t = c :: l.take m := by rw [ht, hm, List.take_succ_cons]
    have hs' : oneP (c :: (l.take m ++ 32 :: flatT us)) = .ok k t n len := by rw [← List.cons_append, ← e]; exact hs
    have hd : (t ++ 32 :: flatT us).drop len = 32 :: flatT us := by rw [List.drop_left' htl]
    conv => lhs; rw [e, List.cons_append]
    rw [toksA_one b hb hr hs', ← List.cons_append, ← e, hd, toksA_blk _ (by decide), hv1]; rfl
theorem toks_again {s : List UInt8} {ts : List Tok} (h : toks s = .ok ts) (h3 : ∀ t ∈ ts, t.kind ≠ 3) (hs : s.length ≤ 600) : (flatT ts).length ≤ 1201 ∧ ∃ us, toks (flatT ts) = .ok us ∧ LikeT ts us := by
  obtain ⟨h1, h2⟩ := toksA_again 0 s ts (toks_ok h).2 h3
  refine ⟨by omega, ?_⟩
  rw [toks_short (by omega)]; exact h2 0

/-! ### Texts in quotes -/
def qB1 (c : UInt8) : List UInt8 := if c.toNat = 10 then [92, 110] else if c.toNat = 34 ∨ c.toNat = 92 then [92, c] else [c]
def qB (p : List UInt8) : List UInt8 := p.flatMap qB1
theorem qB_cons (c : UInt8) (p : List UInt8) : qB (c :: p) = qB1 c ++ qB p := by unfold qB; rw [List.flatMap_cons]
theorem qB_snoc (p : List UInt8) (c : UInt8) : qB (p ++ [c]) = qB p ++ qB1 c := by unfold qB; rw [List.flatMap_append]; simp
theorem qB_len : ∀ p : List UInt8, (qB p).length ≤ 2 * p.length
  | [] => by simp [qB]
  | c :: p => by
    have := qB_len p
    have h : (qB1 c).length ≤ 2 := by
      unfold qB1
      split
      · simp
      · split <;> simp
    rw [qB_cons, List.length_append, List.length_cons]; omega
theorem u8_of {c : UInt8} {n : Nat} (hn : n < 256) (h : c.toNat = n) : c = UInt8.ofNat n := by
  apply UInt8.toNat_inj.1; rw [h]; simp; omega
theorem txtP_q1 (acc : List UInt8) (k : Nat) (c : UInt8) (l : List UInt8) : txtP acc k (qB1 c ++ l) = txtP (acc ++ [c]) (k + (qB1 c).length) l := by
  unfold qB1
  by_cases h1 : c.toNat = 10
  · rw [if_pos h1]
    have e : escY 110 = some 10 := by decide
    show txtP acc k (92 :: 110 :: l) = _
    rw [txtP_ee _ _ _ _ (by decide), e, u8_of (by decide) h1]; rfl
  rw [if_neg h1]
  by_cases h2 : c.toNat = 34 ∨ c.toNat = 92
  · rw [if_pos h2]
    have e : escY c = some c := by unfold escY; rw [if_pos (by omega)]
    show txtP acc k (92 :: c :: l) = _
    rw [txtP_ee _ _ _ _ (by decide), e]; rfl
  · rw [if_neg h2]
    show txtP acc k (c :: l) = _
    rw [txtP_oo _ _ _ (by omega) h1 (by omega)]; rfl
theorem txtP_qB : ∀ (p acc : List UInt8) (k : Nat) (l : List UInt8), txtP acc k (qB p ++ l) = txtP (acc ++ p) (k + (qB p).length) l
  | [], acc, k, l => by simp [qB]
  | c :: p, acc, k, l => by
    rw [qB_cons, List.append_assoc, txtP_q1, txtP_qB p, List.length_append]
    congr 1
    · simp
    · omega
theorem toks_quote {p : List UInt8} (h : p.length ≤ 600) : toks (34 :: qB p ++ [34]) = if 200 < p.length then .bad 0 2 else .ok [⟨3, p, 0, 0⟩, ⟨0, [], 0, (qB p).length + 2⟩] := by
  have hl := qB_len p
  rw [toks_short (by simp; omega)]
  have e : oneP (34 :: (qB p ++ [34])) = if 200 < p.length then .bad 0 2 else .ok 3 p 0 ((qB p).length + 2) := by
    rw [oneP_cons, if_neg (by decide), if_neg (by decide), if_pos (by decide), txtP_qB, txtP_qq _ _ _ (by decide), List.nil_append]
    split
    · rfl
    · congr 1; omega
  rw [List.cons_append]
  by_cases h2 : 200 < p.length
  · rw [if_pos h2] at e ⊢
    rw [toksA_bad _ (by decide) (by decide) e]
  · rw [if_neg h2] at e ⊢
    rw [toksA_one _ (by decide) (by decide) e, List.drop_eq_nil_of_le (by simp), toksA_nil]
    simp [Out.cons]
theorem toks_open {p : List UInt8} (h : p.length ≤ 600) : toks (34 :: qB p) = .bad ((qB p).length + 1) 4 := by
  have hl := qB_len p
  rw [toks_short (by simp; omega)]
  have e : oneP (34 :: qB p) = .bad ((qB p).length + 1) 4 := by
    rw [oneP_cons, if_neg (by decide), if_neg (by decide), if_pos (by decide)]
    have := txtP_qB p [] 1 []
    rw [List.append_nil] at this
    rw [this, txtP_nil', Nat.add_comm]
  rw [toksA_bad _ (by decide) (by decide) e, Nat.zero_add]

end Go.Proofs.YtgephneppgcnlaaGreatDoor
