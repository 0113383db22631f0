/- Tokens, in plain Lean: what stands behind a text; places; blanks ahead. -/
import Derived.Test.YtgephneppgcnlaaDoorTpl
namespace Go.Proofs.YtgephneppgcnlaaDoor
set_option linter.unusedVariables false
set_option linter.unusedSimpArgs false

theorem oneP_cons (c : UInt8) (l : List UInt8) : oneP (c :: l) =
    if letB c then (if 32 < runL ldB (c :: l) then .bad 0 2 else .ok 1 ((c :: l).take (runL ldB (c :: l))) 0 (runL ldB (c :: l)))
    else if c.toNat = 45 ∨ digB c = true then numP (c :: l)
    else if c.toNat = 34 then txtP [] 1 l
    else if dotsB (c :: l) then .ok 4 [46, 46, 46] 0 3
    else if signB c then .ok 4 [c] 0 1
    else .bad 0 4 := rfl
theorem numP_eq {l : List UInt8} {f r : Nat} (hf : numFrom l = f) (hr : runL digB (l.drop f) = r) : numP l =
    if f + r = f then .bad (f + r) 4
    else if (l.getD f 0).toNat = 48 ∧ f + 1 < f + r then .bad (f + 1) 4
    else if f + r < l.length ∧ (letB (l.getD (f + r) 0) = true ∨ (l.getD (f + r) 0).toNat = 46) then .bad (f + r) 4
    else if 18 < r then .bad 0 1
    else .ok 2 (l.take (f + r)) ((if f = 1 then -1 else 1) * (decV 0 ((l.drop f).take r) : Int)) (f + r) := by
  subst hf; subst hr
  unfold numP
  simp only [Nat.add_sub_cancel_left]
theorem txtP_qq (acc : List UInt8) (k : Nat) {c : UInt8} (l : List UInt8) (h : c.toNat = 34) : txtP acc k (c :: l) = if 200 < acc.length then .bad 0 2 else .ok 3 acc 0 (k + 1) := by rw [txtP.eq_def]; simp only; rw [if_pos h]
theorem txtP_nn (acc : List UInt8) (k : Nat) {c : UInt8} (l : List UInt8) (h : c.toNat = 10) : txtP acc k (c :: l) = .bad k 4 := by rw [txtP.eq_def]; simp only; rw [if_neg (by omega), if_pos h]
theorem txtP_ee0 (acc : List UInt8) (k : Nat) {c : UInt8} (h : c.toNat = 92) : txtP acc k [c] = .bad (k + 1) 4 := by rw [txtP.eq_def]; simp only; rw [if_neg (by omega), if_neg (by omega), if_pos h]
def escY (d : UInt8) : Option UInt8 := if d.toNat = 34 ∨ d.toNat = 92 ∨ d.toNat = 47 then some d else if d.toNat = 110 then some 10 else if d.toNat = 116 then some 9 else none
theorem txtP_ee (acc : List UInt8) (k : Nat) {c : UInt8} (d : UInt8) (l : List UInt8) (h : c.toNat = 92) : txtP acc k (c :: d :: l) = match escY d with | some x => txtP (acc ++ [x]) (k + 2) l | none => .bad (k + 1) 4 := by
  rw [txtP.eq_def]; simp only; rw [if_neg (by omega), if_neg (by omega), if_pos h]
  unfold escY
  split
  · rfl
  · split
    · rfl
    · split <;> rfl
theorem txtP_oo (acc : List UInt8) (k : Nat) {c : UInt8} (l : List UInt8) (h1 : c.toNat ≠ 34) (h2 : c.toNat ≠ 10) (h3 : c.toNat ≠ 92) : txtP acc k (c :: l) = txtP (acc ++ [c]) (k + 1) l := by rw [txtP.eq_def]; simp only; rw [if_neg h1, if_neg h2, if_neg h3]
theorem txtP_nil' (acc : List UInt8) (k : Nat) : txtP acc k [] = .bad k 4 := by rw [txtP.eq_def]
/-- A text that has ended is what it is, whatever follows. -/
theorem txtP_app (x : List UInt8) : ∀ (m : Nat) (l acc : List UInt8) (k : Nat) {kd : Nat} {t : List UInt8} {n : Int} {len : Nat}, l.length ≤ m → txtP acc k l = .ok kd t n len → txtP acc k (l ++ x) = .ok kd t n len
  | _, [], acc, k, kd, t, n, len, _, h => by rw [txtP_nil'] at h; cases h
  | 0, _ :: _, _, _, _, _, _, _, hn, _ => by simp at hn
  | m + 1, c :: l, acc, k, kd, t, n, len, hn, h => by
    simp only [List.length_cons] at hn
    rw [List.cons_append]
    by_cases h1 : c.toNat = 34
    · rw [txtP_qq _ _ _ h1] at h ⊢; exact h
    by_cases h2 : c.toNat = 10
    · rw [txtP_nn _ _ _ h2] at h; cases h
    by_cases h3 : c.toNat = 92
    · cases l with
      | nil => rw [txtP_ee0 _ _ h3] at h; cases h
      | cons d l =>
        rw [List.cons_append, txtP_ee _ _ _ _ h3]
        rw [txtP_ee _ _ _ _ h3] at h
        simp only [List.length_cons] at hn
        split at h
        · exact txtP_app x m l _ _ (by omega) h
        · cases h
    rw [txtP_oo _ _ _ h1 h2 h3] at h ⊢
    exact txtP_app x m l _ _ (by omega) h
theorem getD_left (l r : List UInt8) (i : Nat) (h : i < l.length) : (l ++ r).getD i 0 = l.getD i 0 := by
  rw [List.getD_eq_getElem?_getD, List.getD_eq_getElem?_getD, List.getElem?_append_left h]
theorem getD_right (l : List UInt8) (g : UInt8) (r : List UInt8) : (l ++ g :: r).getD l.length 0 = g := by
  rw [List.getD_eq_getElem?_getD, List.getElem?_append_right (Nat.le_refl _)]; simp
theorem ldB_no {g : UInt8} (h : ldB g = false) : letB g = false ∧ digB g = false := by unfold ldB at h; simpa using h
theorem numP_sep {l : List UInt8} (r : List UInt8) {g : UInt8} (hg : ldB g = false) (hg2 : g.toNat ≠ 46) (hl : l ≠ []) {kd : Nat} {t : List UInt8} {n : Int} {len : Nat} (h : numP l = .ok kd t n len) : numP (l ++ g :: r) = .ok kd t n len := by
  obtain ⟨f, hf⟩ : ∃ f, numFrom l = f := ⟨_, rfl⟩
  obtain ⟨q, hq⟩ : ∃ q, runL digB (l.drop f) = q := ⟨_, rfl⟩
  have hf1 : f ≤ 1 := by rw [← hf]; exact numFrom_le l
  have h1 : 1 ≤ l.length := by cases l with | nil => exact absurd rfl hl | cons => simp
  have hf' : numFrom (l ++ g :: r) = f := by
    rw [← hf]; unfold numFrom
    cases l with | nil => exact absurd rfl hl | cons => rfl
  have hq' : runL digB ((l ++ g :: r).drop f) = q := by
    rw [List.drop_append_of_le_length (by omega), runL_cut _ _ (.inr fun _ => (ldB_no hg).2), hq]
  have hql := runL_le digB (l.drop f)
  rw [hq, List.length_drop] at hql
  rw [numP_eq hf hq] at h
  rw [numP_eq hf' hq']
  by_cases c1 : f + q = f
  · rw [if_pos c1] at h; cases h
  rw [if_neg c1] at h ⊢
  rw [getD_left _ _ _ (by omega)]
  by_cases c2 : (l.getD f 0).toNat = 48 ∧ f + 1 < f + q
  · rw [if_pos c2] at h; cases h
  rw [if_neg c2] at h ⊢
  by_cases c3 : f + q < l.length ∧ (letB (l.getD (f + q) 0) = true ∨ (l.getD (f + q) 0).toNat = 46)
  · rw [if_pos c3] at h; cases h
  have c3' : ¬ (f + q < (l ++ g :: r).length ∧ (letB ((l ++ g :: r).getD (f + q) 0) = true ∨ ((l ++ g :: r).getD (f + q) 0).toNat = 46)) := by
    rintro ⟨_, hb⟩
    by_cases hlt : f + q < l.length
    · rw [getD_left _ _ _ hlt] at hb; exact c3 ⟨hlt, hb⟩
    · have e : f + q = l.length := by omega
      rw [e, getD_right] at hb
      rcases hb with hb | hb
      · rw [(ldB_no hg).1] at hb; cases hb
      · exact hg2 hb
  rw [if_neg c3] at h
  rw [if_neg c3']
  rw [List.take_append_of_le_length (by omega), List.drop_append_of_le_length (by omega), List.take_append_of_le_length (by rw [List.length_drop]; omega)]
  exact h
theorem sign_nodot {c : UInt8} (h : signB c = true) : c.toNat ≠ 46 := by
  unfold signB at h
  intro e
  rw [e] at h
  exact absurd h (by decide)
theorem dots_first {c : UInt8} (l : List UInt8) (h : c.toNat ≠ 46) : dotsB (c :: l) = false := by
  unfold dotsB
  apply decide_eq_false
  intro e
  simp at e
  exact h e.1
theorem dots_len {l : List UInt8} (h : dotsB l = true) : 3 ≤ l.length := by
  unfold dotsB at h
  have := congrArg List.length (of_decide_eq_true h)
  simp at this; omega
theorem dots_left {l : List UInt8} (r : List UInt8) (h : dotsB l = true) : dotsB (l ++ r) = true := by
  have := dots_len h
  unfold dotsB at h ⊢
  rw [List.take_append_of_le_length (by omega)]; exact h
/-- A token is what it is, whatever follows behind something that no name, number or dots go on with. -/
theorem oneP_sep {l : List UInt8} (r : List UInt8) {g : UInt8} (hg : ldB g = false) (hg2 : g.toNat ≠ 46) {kd : Nat} {t : List UInt8} {n : Int} {len : Nat} (h : oneP l = .ok kd t n len) : oneP (l ++ g :: r) = .ok kd t n len := by
  cases l with
  | nil => cases h
  | cons c l =>
    rw [List.cons_append, oneP_cons]
    rw [oneP_cons] at h
    by_cases h1 : letB c = true
    · rw [if_pos h1] at h ⊢
      have e : runL ldB (c :: (l ++ g :: r)) = runL ldB (c :: l) := by
        rw [← List.cons_append, runL_cut _ _ (.inr fun _ => hg)]
      have hle := runL_le ldB (c :: l)
      rw [e, ← List.cons_append, List.take_append_of_le_length hle]
      exact h
    rw [if_neg h1] at h ⊢
    by_cases h2 : c.toNat = 45 ∨ digB c = true
    · rw [if_pos h2] at h ⊢
      have := numP_sep r hg hg2 (by simp) h
      rw [List.cons_append] at this; exact this
    rw [if_neg h2] at h ⊢
    by_cases h3 : c.toNat = 34
    · rw [if_pos h3] at h ⊢; exact txtP_app _ _ _ _ _ (Nat.le_refl _) h
    rw [if_neg h3] at h ⊢
    by_cases h4 : dotsB (c :: l) = true
    · rw [if_pos h4] at h
      have := dots_left (g :: r) h4
      rw [List.cons_append] at this
      rw [if_pos this]; exact h
    rw [if_neg h4] at h
    by_cases h5 : signB c = true
    · rw [if_pos h5] at h
      rw [if_neg (by rw [dots_first _ (sign_nodot h5)]; decide), if_pos h5]; exact h
    · rw [if_neg h5] at h; cases h
theorem Out.cons_app (ts : List Tok) (t : Tok) (o : Out) : (o.app ts).cons t = o.app (t :: ts) := by cases o <;> rfl
theorem dropLast_cons {t : Tok} {us : List Tok} (h : 0 < us.length) : (t :: us).dropLast = t :: us.dropLast := by
  cases us with
  | nil => simp at h
  | cons => rfl
/-- An end of line behind a text: the tokens of both. -/
theorem toksA_sep : ∀ (a : Nat) (l : List UInt8), ∀ ts, toksA a l = .ok ts → ∀ r, toksA a (l ++ 10 :: r) = (toksA (a + l.length + 1) r).app ts.dropLast := by
  refine toksA_ind ?_ ?_ ?_ ?_ ?_
  · intro a ts h r
    rw [toksA_nil] at h; injection h with h; subst h
    rw [List.nil_append, toksA_blk a (by decide)]
    simp [Out.app_nil]
  · intro a c l hb ih ts h r
    rw [toksA_blk a hb] at h
    rw [List.cons_append, toksA_blk a hb, ih ts h r, List.length_cons]
    congr 2 <;> omega
  · intro a c l hr ih ts h r
    rw [toksA_rem a hr] at h
    have hle := runL_le lineB l
    have e : runL lineB (l ++ 10 :: r) = runL lineB l := runL_cut _ _ (.inr fun _ => rfl)
    rw [List.cons_append, toksA_rem a hr, e, List.drop_append_of_le_length hle, ih ts h r, List.length_cons, List.length_drop]
    congr 2 <;> omega
  · intro a c l off e hb hr hx ts h
    rw [toksA_bad a hb hr hx] at h; cases h
  · intro a c l k t n len hb hr ho ih ts h r
    rw [toksA_one a hb hr ho] at h
    obtain ⟨us, hu, rfl⟩ := Out.cons_ok h
    have hl := oneP_len ho
    have hn := (toksA_at _ _ us hu).1
    have hs := oneP_sep r (g := 10) (by decide) (by decide) ho
    rw [List.cons_append] at hs ⊢
    rw [toksA_one a hb hr hs, ← List.cons_append, List.drop_append_of_le_length hl.2, ih us hu r, Out.cons_app, dropLast_cons hn, List.length_drop]
    congr 2 <;> omega
def Tok.upp (n : Nat) (t : Tok) : Tok := ⟨t.kind, t.text, t.n, t.at_ + n⟩
def Out.up (n : Nat) : Out → Out
  | .ok ts => .ok (ts.map (Tok.upp n))
  | .bad a e => .bad (a + n) e
theorem Out.up_cons (n : Nat) (t : Tok) (o : Out) : (o.cons t).up n = (o.up n).cons (t.upp n) := by cases o <;> rfl
/-- Tokens further on. -/
theorem toksA_up (n : Nat) : ∀ (a : Nat) (l : List UInt8), toksA (a + n) l = (toksA a l).up n := by
  refine toksA_ind ?_ ?_ ?_ ?_ ?_
  · intro a; rfl
  · intro a c l hb ih
    rw [toksA_blk _ hb, toksA_blk _ hb, ← ih]; congr 1; omega
  · intro a c l hr ih
    rw [toksA_rem _ hr, toksA_rem _ hr, ← ih]; congr 1; omega
  · intro a c l off e hb hr hx
    rw [toksA_bad _ hb hr hx, toksA_bad _ hb hr hx]
    unfold Out.up; congr 1; omega
  · intro a c l k t m len hb hr ho ih
    rw [toksA_one _ hb hr ho, toksA_one _ hb hr ho, Out.up_cons, ← ih]
    congr 2 <;> omega
theorem toks_join {a b : List UInt8} {ts : List Tok} (ha : toks a = .ok ts) (hl : a.length + b.length ≤ 1999) : toks (a ++ 10 :: b) = ((toks b).up (a.length + 1)).app ts.dropLast := by
  rw [toks_short (by simp; omega), toks_short (s := b) (by omega), toksA_sep 0 a ts (toks_ok ha).2 b, ← toksA_up]
  congr 2 <;> omega
/-! ### Blanks ahead -/
def gapL (n : Nat) : List UInt8 := match n with | 0 => [32] | 1 => [9] | 2 => [10] | 3 => [13] | 4 => [44] | _ => [35, 32, 120, 32, 123, 32, 34, 10]
theorem toksA_gap (n a : Nat) (l : List UInt8) : toksA a (gapL n ++ l) = toksA (a + (gapL n).length) l := by
  match n with
  | 0 => exact toksA_blk a (by decide)
  | 1 => exact toksA_blk a (by decide)
  | 2 => exact toksA_blk a (by decide)
  | 3 => exact toksA_blk a (by decide)
  | 4 => exact toksA_blk a (by decide)
  | n + 5 =>
    show toksA a (35 :: ([32, 120, 32, 123, 32, 34] ++ 10 :: l)) = toksA (a + 8) l
    have e : runL lineB ([32, 120, 32, 123, 32, 34] ++ 10 :: l) = 6 := by
      rw [runL_cut _ _ (.inr fun _ => rfl)]; decide
    rw [toksA_rem a (by decide), e]
    show toksA (a + 1 + 6) (10 :: l) = _
    rw [toksA_blk _ (by decide)]
theorem gap_len (n : Nat) : 1 ≤ (gapL n).length ∧ (gapL n).length ≤ 8 := by
  unfold gapL; split <;> decide
def aheadL (p : List Nat) : List UInt8 := p.flatMap fun n => gapL (n % 6)
theorem ahead_len : ∀ p : List Nat, (aheadL p).length ≤ 8 * p.length
  | [] => by simp [aheadL]
  | n :: p => by
    have := ahead_len p
    have h := (gap_len (n % 6)).2
    unfold aheadL at this ⊢
    rw [List.flatMap_cons, List.length_append, List.length_cons]; omega
theorem toksA_ahead : ∀ (p : List Nat) (a : Nat) (l : List UInt8), toksA a (aheadL p ++ l) = toksA (a + (aheadL p).length) l
  | [], a, l => rfl
  | n :: p, a, l => by
    unfold aheadL
    rw [List.flatMap_cons, List.append_assoc, toksA_gap, List.length_append, ← Nat.add_assoc]
    exact toksA_ahead p _ l
theorem toks_ahead {p : List Nat} {s : List UInt8} (h : (aheadL p).length + s.length ≤ 2000) : toks (aheadL p ++ s) = (toks s).up (aheadL p).length := by
  rw [toks_short (by simp; omega), toks_short (s := s) (by omega), toksA_ahead, ← toksA_up]
theorem ahead_snoc (p : List Nat) (n : Nat) : aheadL (p ++ [n]) = aheadL p ++ gapL (n % 6) := by
  unfold aheadL; rw [List.flatMap_append]; simp
end Go.Proofs.YtgephneppgcnlaaDoor
