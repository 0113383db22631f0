/- The tokens of a text, in plain Lean: what both the program and the document's answer compute. -/
import Derived.Lib.ParseIntB
namespace Go.Proofs.YtgephneppgcnlaaDoor
set_option linter.unusedVariables false
set_option linter.unusedSimpArgs false

def letB (c : UInt8) : Bool := (decide (97 ≤ c.toNat) && decide (c.toNat ≤ 122)) || (decide (65 ≤ c.toNat) && decide (c.toNat ≤ 90)) || decide (c.toNat = 95)
def digB (c : UInt8) : Bool := decide (48 ≤ c.toNat) && decide (c.toNat ≤ 57)
def ldB (c : UInt8) : Bool := letB c || digB c
def blkB (c : UInt8) : Bool := decide (c.toNat = 32) || decide (c.toNat = 9) || decide (c.toNat = 13) || decide (c.toNat = 10) || decide (c.toNat = 44)
def lineB (c : UInt8) : Bool := !decide (c.toNat = 10)
def signB (c : UInt8) : Bool := decide (c.toNat ∈ [33, 36, 40, 41, 58, 61, 64, 91, 93, 123, 124, 125, 38])
/-- How many bytes from the beginning on are so. -/
def runL (f : UInt8 → Bool) : List UInt8 → Nat
  | [] => 0
  | c :: l => if f c then runL f l + 1 else 0
theorem runL_le (f : UInt8 → Bool) : ∀ l, runL f l ≤ l.length
  | [] => Nat.le_refl _
  | c :: l => by unfold runL; split <;> simp only [List.length_cons] <;> have := runL_le f l <;> omega
/-- The value of digits, the first d of them. -/
def decStep (a : Nat) (c : UInt8) : Nat := a * 10 + (c.toNat - 48)
def decV (a : Nat) (l : List UInt8) : Nat := List.foldl decStep a l
inductive One where
  | ok (kind : Nat) (text : List UInt8) (n : Int) (len : Nat)
  | bad (off e : Nat)
def numFrom (l : List UInt8) : Nat := if l.head?.map (·.toNat) = some 45 then 1 else 0
def numP (l : List UInt8) : One :=
  let from_ := numFrom l
  let n := from_ + runL digB (l.drop from_)
  if n = from_ then .bad n 4
  else if (l.getD from_ 0).toNat = 48 ∧ from_ + 1 < n then .bad (from_ + 1) 4
  else if n < l.length ∧ (letB (l.getD n 0) = true ∨ (l.getD n 0).toNat = 46) then .bad n 4
  else if 18 < n - from_ then .bad 0 1
  else .ok 2 (l.take n) ((if from_ = 1 then -1 else 1) * (decV 0 ((l.drop from_).take (n - from_)) : Int)) n
def txtP : List UInt8 → Nat → List UInt8 → One
  | acc, k, [] => .bad k 4
  | acc, k, c :: l =>
    if c.toNat = 34 then (if 200 < acc.length then .bad 0 2 else .ok 3 acc 0 (k + 1))
    else if c.toNat = 10 then .bad k 4
    else if c.toNat = 92 then
      match l with
      | [] => .bad (k + 1) 4
      | d :: l' =>
        if d.toNat = 34 ∨ d.toNat = 92 ∨ d.toNat = 47 then txtP (acc ++ [d]) (k + 2) l'
        else if d.toNat = 110 then txtP (acc ++ [10]) (k + 2) l'
        else if d.toNat = 116 then txtP (acc ++ [9]) (k + 2) l'
        else .bad (k + 1) 4
    else txtP (acc ++ [c]) (k + 1) l
def dotsB (l : List UInt8) : Bool := decide ((l.take 3).map (·.toNat) = [46, 46, 46])
def oneP : List UInt8 → One
  | [] => .bad 0 4
  | c :: l =>
    if letB c then (if 32 < runL ldB (c :: l) then .bad 0 2 else .ok 1 ((c :: l).take (runL ldB (c :: l))) 0 (runL ldB (c :: l)))
    else if c.toNat = 45 ∨ digB c = true then numP (c :: l)
    else if c.toNat = 34 then txtP [] 1 l
    else if dotsB (c :: l) then .ok 4 [46, 46, 46] 0 3
    else if signB c then .ok 4 [c] 0 1
    else .bad 0 4
structure Tok where
  kind : Nat
  text : List UInt8
  n : Int
  at_ : Nat
inductive Out where
  | ok (ts : List Tok)
  | bad (at_ e : Nat)
def Out.cons (t : Tok) : Out → Out
  | .ok ts => .ok (t :: ts)
  | .bad a e => .bad a e
def toksF : Nat → Nat → List UInt8 → Out
  | 0, at_, _ => .bad at_ 4
  | f + 1, at_, [] => .ok [⟨0, [], 0, at_⟩]
  | f + 1, at_, c :: l =>
    if blkB c then toksF f (at_ + 1) l
    else if c.toNat = 35 then toksF f (at_ + 1 + runL lineB l) (l.drop (runL lineB l))
    else match oneP (c :: l) with
      | .bad off e => .bad (at_ + off) e
      | .ok k t n len => (toksF f (at_ + len) ((c :: l).drop len)).cons ⟨k, t, n, at_⟩
def toksA (at_ : Nat) (l : List UInt8) : Out := toksF (l.length + 1) at_ l
/-- The tokens of a text. -/
def toks (s : List UInt8) : Out := if 2000 < s.length then .bad 0 2 else toksA 0 s

/-! ### What a token takes -/
theorem runL_pos {f : UInt8 → Bool} {c : UInt8} {l : List UInt8} (h : f c = true) : 1 ≤ runL f (c :: l) := by unfold runL; rw [if_pos h]; omega
theorem txtP_len : ∀ (l : List UInt8) (acc : List UInt8) (k : Nat) {kd : Nat} {t : List UInt8} {n : Int} {len : Nat}, txtP acc k l = .ok kd t n len → k + 1 ≤ len ∧ len ≤ k + l.length ∧ kd = 3 ∧ n = 0 ∧ t.length ≤ 200
  | [], acc, k, kd, t, n, len, h => by unfold txtP at h; cases h
  | c :: l, acc, k, kd, t, n, len, h => by
    unfold txtP at h
    split at h
    · split at h
      · cases h
      · injection h with h1 h2 h3 h4
        subst h1; subst h2; subst h3; subst h4
        refine ⟨Nat.le_refl _, by simp, rfl, rfl, by omega⟩
    · split at h
      · cases h
      · split at h
        · cases l with
          | nil => simp at h
          | cons d l' =>
            simp only at h
            have ih := fun x => txtP_len l' (acc ++ [x]) (k + 2) (kd := kd) (t := t) (n := n) (len := len)
            simp only [List.length_cons]
            split at h
            · have := ih _ h; omega
            · split at h
              · have := ih _ h; omega
              · split at h
                · have := ih _ h; omega
                · cases h
        · have := txtP_len l (acc ++ [c]) (k + 1) h
          simp only [List.length_cons]; omega
theorem numP_len {l : List UInt8} {kd : Nat} {t : List UInt8} {n : Int} {len : Nat} (h : numP l = .ok kd t n len) (hl : l ≠ []) : 1 ≤ len ∧ len ≤ l.length ∧ kd = 2 ∧ t = l.take len := by
  unfold numP at h
  simp only at h
  split at h
  · cases h
  · split at h
    · cases h
    · split at h
      · cases h
      · split at h
        · cases h
        · injection h with h1 h2 h3 h4
          have := runL_le digB (l.drop (numFrom l))
          rw [List.length_drop] at this
          have h1' : numFrom l ≤ 1 := by unfold numFrom; split <;> omega
          have h2' : 1 ≤ l.length := by cases l with | nil => exact absurd rfl hl | cons => simp
          refine ⟨by omega, by omega, h1.symm, ?_⟩
          rw [← h2, h4]
theorem oneP_len {l : List UInt8} {kd : Nat} {t : List UInt8} {n : Int} {len : Nat} (h : oneP l = .ok kd t n len) : 1 ≤ len ∧ len ≤ l.length := by
  cases l with
  | nil => simp [oneP] at h
  | cons c l =>
    simp only [oneP] at h
    split at h
    · rename_i hc
      split at h
      · cases h
      · injection h with h1 h2 h3 h4
        rw [← h4]
        exact ⟨runL_pos (by unfold ldB; rw [hc]; rfl), runL_le _ _⟩
    · split at h
      · have := numP_len h (by simp); exact ⟨this.1, this.2.1⟩
      · split at h
        · have := txtP_len l [] 1 h; simp only [List.length_cons]; omega
        · split at h
          · rename_i hd
            injection h with h1 h2 h3 h4
            rw [← h4]
            refine ⟨by decide, ?_⟩
            unfold dotsB at hd
            have := congrArg List.length (of_decide_eq_true hd)
            simp at this ⊢; omega
          · split at h
            · injection h with h1 h2 h3 h4; rw [← h4]; exact ⟨Nat.le_refl _, by simp⟩
            · cases h
/-- Fuel beyond the length changes nothing. -/
theorem toksF_more : ∀ (f g at_ : Nat) (l : List UInt8), l.length < f → l.length < g → toksF f at_ l = toksF g at_ l
  | 0, _, _, _, h, _ => absurd h (by omega)
  | _ + 1, 0, _, _, _, h => absurd h (by omega)
  | f + 1, g + 1, at_, [], _, _ => rfl
  | f + 1, g + 1, at_, c :: l, h1, h2 => by
    simp only [List.length_cons] at h1 h2
    simp only [toksF]
    by_cases hb : blkB c = true
    · rw [if_pos hb, if_pos hb]; exact toksF_more f g _ _ (by omega) (by omega)
    rw [if_neg hb, if_neg hb]
    by_cases hr : c.toNat = 35
    · rw [if_pos hr, if_pos hr]; exact toksF_more f g _ _ (by rw [List.length_drop]; omega) (by rw [List.length_drop]; omega)
    rw [if_neg hr, if_neg hr]
    cases ho : oneP (c :: l) with
    | bad off e => rfl
    | ok k t n len =>
      have := oneP_len ho
      simp only
      rw [toksF_more f g _ _ (by rw [List.length_drop, List.length_cons]; omega) (by rw [List.length_drop, List.length_cons]; omega)]
theorem toksA_nil (at_ : Nat) : toksA at_ [] = .ok [⟨0, [], 0, at_⟩] := rfl
theorem toksA_blk (at_ : Nat) {c : UInt8} {l : List UInt8} (h : blkB c = true) : toksA at_ (c :: l) = toksA (at_ + 1) l := by
  unfold toksA
  show toksF (l.length + 1 + 1) at_ (c :: l) = _
  rw [toksF, if_pos h]
theorem toksA_rem (at_ : Nat) {c : UInt8} {l : List UInt8} (h : c.toNat = 35) : toksA at_ (c :: l) = toksA (at_ + 1 + runL lineB l) (l.drop (runL lineB l)) := by
  have hb : blkB c = false := by unfold blkB; rw [h]; rfl
  unfold toksA
  show toksF (l.length + 1 + 1) at_ (c :: l) = _
  rw [toksF]
  rw [if_neg (by rw [hb]; decide), if_pos h]
  exact toksF_more _ _ _ _ (by rw [List.length_drop]; omega) (by omega)
theorem toksA_bad (at_ : Nat) {c : UInt8} {l : List UInt8} {off e : Nat} (hb : blkB c = false) (hr : c.toNat ≠ 35) (h : oneP (c :: l) = .bad off e) : toksA at_ (c :: l) = .bad (at_ + off) e := by
  unfold toksA
  show toksF (l.length + 1 + 1) at_ (c :: l) = _
  rw [toksF]
  rw [if_neg (by rw [hb]; decide), if_neg hr, h]
theorem toksA_one (at_ : Nat) {c : UInt8} {l : List UInt8} {k : Nat} {t : List UInt8} {n : Int} {len : Nat} (hb : blkB c = false) (hr : c.toNat ≠ 35) (h : oneP (c :: l) = .ok k t n len) : toksA at_ (c :: l) = (toksA (at_ + len) ((c :: l).drop len)).cons ⟨k, t, n, at_⟩ := by
  have hl := oneP_len h
  unfold toksA
  show toksF (l.length + 1 + 1) at_ (c :: l) = _
  rw [toksF]
  rw [if_neg (by rw [hb]; decide), if_neg hr, h]
  simp only
  rw [toksF_more _ (((c :: l).drop len).length + 1) _ _ (by rw [List.length_drop, List.length_cons]; omega) (by omega)]
/-- A run of blanks. -/
theorem toksA_run (at_ : Nat) : ∀ (l : List UInt8), toksA at_ l = toksA (at_ + runL blkB l) (l.drop (runL blkB l))
  | [] => rfl
  | c :: l => by
    unfold runL
    split
    · rename_i h
      rw [toksA_blk at_ h, toksA_run (at_ + 1) l, List.drop_succ_cons]
      congr 1; omega
    · rfl
def Out.app (ts : List Tok) : Out → Out
  | .ok us => .ok (ts ++ us)
  | .bad a e => .bad a e
theorem Out.app_nil (o : Out) : o.app [] = o := by cases o <;> rfl
theorem Out.app_cons (ts : List Tok) (t : Tok) (o : Out) : (o.cons t).app ts = o.app (ts ++ [t]) := by
  cases o <;> simp [Out.cons, Out.app]
end Go.Proofs.YtgephneppgcnlaaDoor
