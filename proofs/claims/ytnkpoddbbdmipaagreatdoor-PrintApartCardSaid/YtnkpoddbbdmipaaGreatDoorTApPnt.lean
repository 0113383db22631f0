/- . -/
import Derived.Lib.ParseIntB
namespace Go.Proofs.YtnkpoddbbdmipaaGreatDoor
set_option linter.unusedVariables false
set_option linter.unusedSimpArgs false
def letB (c : UInt8) : Bool := (decide (97 ≤ c.toNat) && decide (c.toNat ≤ 122)) || (decide (65 ≤ c.toNat) && decide (c.toNat ≤ 90)) || decide (c.toNat = 95)
def digB (c : UInt8) : Bool := decide (48 ≤ c.toNat) && decide (c.toNat ≤ 57)
def ldB (c : UInt8) : Bool := letB c || digB c
def blkB (c : UInt8) : Bool := decide (c.toNat = 32) || decide (c.toNat = 9) || decide (c.toNat = 13) || decide (c.toNat = 10) || decide (c.toNat = 44)
def lineB (c : UInt8) : Bool := !decide (c.toNat = 10)
def signB (c : UInt8) : Bool := decide (c.toNat ∈ [33, 36, 40, 41, 58, 61, 64, 91, 93, 123, 124, 125, 38])
def runL (f : UInt8 → Bool) : List UInt8 → Nat
 | [] => 0
 | c :: l => if f c then runL f l + 1 else 0
theorem runL_le (f : UInt8 → Bool) : ∀ l, runL f l ≤ l.length
 | [] => Nat.le_refl _
 | c :: l => by unfold runL; split <;> simp only [List.length_cons] <;> have := runL_le f l <;> omega
def decStep (a : Nat) (c : UInt8) : Nat := a * 10 + (c.toNat - 48)
def decV (a : Nat) (l : List UInt8) : Nat := List.foldl decStep a l
inductive One where
 | ok (kind : Nat) (text : List UInt8) (n : Int) (len : Nat)
 | bad (off e : Nat)
def numFrom (l : List UInt8) : Nat := if l.head?.map (·.toNat) = some 45 then 1 else 0
def numP (l : List UInt8) : One :=
 let from_ := numFrom l
 let n := from_ + runL digB (l.drop from_)
 if n = from_ then .bad n 4
 else if (l.getD from_ 0).toNat = 48 ∧ from_ + 1 < n then .bad (from_ + 1) 4
 else if n < l.length ∧ (letB (l.getD n 0) = true ∨ (l.getD n 0).toNat = 46) then .bad n 4
 else if 18 < n - from_ then .bad 0 1
 else .ok 2 (l.take n) ((if from_ = 1 then -1 else 1) * (decV 0 ((l.drop from_).take (n - from_)) : Int)) n
def txtP : List UInt8 → Nat → List UInt8 → One
 | acc, k, [] => .bad k 4
 | acc, k, c :: l =>
  if c.toNat = 34 then (if 200 < acc.length then .bad 0 2 else .ok 3 acc 0 (k + 1))
  else if c.toNat = 10 then .bad k 4
  else if c.toNat = 92 then
   match l with
   | [] => .bad (k + 1) 4
   | d :: l' =>
    if d.toNat = 34 ∨ d.toNat = 92 ∨ d.toNat = 47 then txtP (acc ++ [d]) (k + 2) l'
    else if d.toNat = 110 then txtP (acc ++ [10]) (k + 2) l'
    else if d.toNat = 116 then txtP (acc ++ [9]) (k + 2) l'
    else .bad (k + 1) 4
  else txtP (acc ++ [c]) (k + 1) l
def dotsB (l : List UInt8) : Bool := decide ((l.take 3).map (·.toNat) = [46, 46, 46])
def oneP : List UInt8 → One
 | [] => .bad 0 4
 | c :: l =>
  if letB c then (if 32 < runL ldB (c :: l) then .bad 0 2 else .ok 1 ((c :: l).take (runL ldB (c :: l))) 0 (runL ldB (c :: l)))
  else if c.toNat = 45 ∨ digB c = true then numP (c :: l)
  else if c.toNat = 34 then txtP [] 1 l
  else if dotsB (c :: l) then .ok 4 [46, 46, 46] 0 3
  else if signB c then .ok 4 [c] 0 1
  else .bad 0 4
structure Tok where
 kind : Nat
 text : List UInt8
 n : Int
 at_ : Nat
inductive Out where
 | ok (ts : List Tok)
 | bad (at_ e : Nat)
def Out.cons (t : Tok) : Out → Out
 | .ok ts => .ok (t :: ts)
 | .bad a e => .bad a e
def toksF : Nat → Nat → List UInt8 → Out
 | 0, at_, _ => .bad at_ 4
 | f + 1, at_, [] => .ok [⟨0, [], 0, at_⟩]
 | f + 1, at_, c :: l =>
  if blkB c then toksF f (at_ + 1) l
  else if c.toNat = 35 then toksF f (at_ + 1 + runL lineB l) (l.drop (runL lineB l))
  else match oneP (c :: l) with
   | .bad off e => .bad (at_ + off) e
   | .ok k t n len => (toksF f (at_ + len) ((c :: l).drop len)).cons ⟨k, t, n, at_⟩
def toksA (at_ : Nat) (l : List UInt8) : Out := toksF (l.length + 1) at_ l
def toks (s : List UInt8) : Out := if 2000 < s.length then .bad 0 2 else toksA 0 s
theorem runL_pos {f : UInt8 → Bool} {c : UInt8} {l : List UInt8} (h : f c = true) : 1 ≤ runL f (c :: l) := by unfold runL; rw [if_pos h]; omega
theorem txtP_len : ∀ (l : List UInt8) (acc : List UInt8) (k : Nat) {kd : Nat} {t : List UInt8} {n : Int} {len : Nat}, txtP acc k l = .ok kd t n len → k + 1 ≤ len ∧ len ≤ k + l.length ∧ kd = 3 ∧ n = 0 ∧ t.length ≤ 200
 | [], acc, k, kd, t, n, len, h => by unfold txtP at h; cases h
 | c :: l, acc, k, kd, t, n, len, h => by
  unfold txtP at h
  split at h
  ·split at h
   ·cases h
   ·injection h with h1 h2 h3 h4
    subst h1; subst h2; subst h3; subst h4; refine ⟨Nat.le_refl _, by simp, rfl, rfl, by omega⟩
  ·split at h
   ·cases h
   ·split at h
    ·cases l with
     | nil => simp at h
     | cons d l' =>
      simp only at h; have ih := fun x => txtP_len l' (acc ++ [x]) (k + 2) (kd := kd) (t := t) (n := n) (len := len)
      simp only [List.length_cons]
      split at h
      ·have := ih _ h; omega
      ·split at h
       ·have := ih _ h; omega
       ·split at h
        ·have := ih _ h; omega
        ·cases h
    ·have := txtP_len l (acc ++ [c]) (k + 1) h; simp only [List.length_cons]; omega
theorem numP_len {l : List UInt8} {kd : Nat} {t : List UInt8} {n : Int} {len : Nat} (h : numP l = .ok kd t n len) (hl : l ≠ []) : 1 ≤ len ∧ len ≤ l.length ∧ kd = 2 ∧ t = l.take len := by
 unfold numP at h; simp only at h
 split at h
 ·cases h
 ·split at h
  ·cases h
  ·split at h
   ·cases h
   ·split at h
    ·cases h
    ·injection h with h1 h2 h3 h4
     have := runL_le digB (l.drop (numFrom l)); rw [List.length_drop] at this; have h1' : numFrom l ≤ 1 := by unfold numFrom; split <;> omega
     have h2' : 1 ≤ l.length := by cases l with | nil => exact absurd rfl hl | cons => simp
     refine ⟨by omega, by omega, h1.symm, ?_⟩
     rw [← h2, h4]
theorem oneP_len {l : List UInt8} {kd : Nat} {t : List UInt8} {n : Int} {len : Nat} (h : oneP l = .ok kd t n len) : 1 ≤ len ∧ len ≤ l.length := by
 cases l with
 | nil => simp [oneP] at h
 | cons c l =>
  simp only [oneP] at h
  split at h
  ·rename_i hc
   split at h
   ·cases h
   ·injection h with h1 h2 h3 h4
    rw [← h4]; exact ⟨runL_pos (by unfold ldB; rw [hc]; rfl), runL_le _ _⟩
  ·split at h
   ·have := numP_len h (by simp); exact ⟨this.1, this.2.1⟩
   ·split at h
    ·have := txtP_len l [] 1 h; simp only [List.length_cons]; omega
    ·split at h
     ·rename_i hd
      injection h with h1 h2 h3 h4
      rw [← h4]; refine ⟨by decide, ?_⟩
      unfold dotsB at hd; have := congrArg List.length (of_decide_eq_true hd); simp at this ⊢; omega
     ·split at h
      ·injection h with h1 h2 h3 h4; rw [← h4]; exact ⟨Nat.le_refl _, by simp⟩
      ·cases h
theorem toksF_more : ∀ (f g at_ : Nat) (l : List UInt8), l.length < f → l.length < g → toksF f at_ l = toksF g at_ l
 | 0, _, _, _, h, _ => absurd h (by omega)
 | _ + 1, 0, _, _, _, h => absurd h (by omega)
 | f + 1, g + 1, at_, [], _, _ => rfl
 | f + 1, g + 1, at_, c :: l, h1, h2 => by
  simp only [List.length_cons] at h1 h2; simp only [toksF]
  by_cases hb : blkB c = true
  ·rw [if_pos hb, if_pos hb]; exact toksF_more f g _ _ (by omega) (by omega)
  rw [if_neg hb, if_neg hb]
  by_cases hr : c.toNat = 35
  ·rw [if_pos hr, if_pos hr]; exact toksF_more f g _ _ (by rw [List.length_drop]; omega) (by rw [List.length_drop]; omega)
  rw [if_neg hr, if_neg hr]
  cases ho : oneP (c :: l) with
  | bad off e => rfl
  | ok k t n len =>
   have := oneP_len ho; simp only; rw [toksF_more f g _ _ (by rw [List.length_drop, List.length_cons]; omega) (by rw [List.length_drop, List.length_cons]; omega)]
theorem toksA_nil (at_ : Nat) : toksA at_ [] = .ok [⟨0, [], 0, at_⟩] := rfl
theorem toksA_blk (at_ : Nat) {c : UInt8} {l : List UInt8} (h : blkB c = true) : toksA at_ (c :: l) = toksA (at_ + 1) l := by
 unfold toksA
 show toksF (l.length + 1 + 1) at_ (c :: l) = _
 rw [toksF, if_pos h]
theorem toksA_rem (at_ : Nat) {c : UInt8} {l : List UInt8} (h : c.toNat = 35) : toksA at_ (c :: l) = toksA (at_ + 1 + runL lineB l) (l.drop (runL lineB l)) := by
 have hb : blkB c = false := by unfold blkB; rw [h]; rfl
 unfold toksA
 show toksF (l.length + 1 + 1) at_ (c :: l) = _
 rw [toksF]; rw [if_neg (by rw [hb]; decide), if_pos h]; exact toksF_more _ _ _ _ (by rw [List.length_drop]; omega) (by omega)
theorem toksA_bad (at_ : Nat) {c : UInt8} {l : List UInt8} {off e : Nat} (hb : blkB c = false) (hr : c.toNat ≠ 35) (h : oneP (c :: l) = .bad off e) : toksA at_ (c :: l) = .bad (at_ + off) e := by
 unfold toksA
 show toksF (l.length + 1 + 1) at_ (c :: l) = _
 rw [toksF]; rw [if_neg (by rw [hb]; decide), if_neg hr, h]
theorem toksA_one (at_ : Nat) {c : UInt8} {l : List UInt8} {k : Nat} {t : List UInt8} {n : Int} {len : Nat} (hb : blkB c = false) (hr : c.toNat ≠ 35) (h : oneP (c :: l) = .ok k t n len) : toksA at_ (c :: l) = (toksA (at_ + len) ((c :: l).drop len)).cons ⟨k, t, n, at_⟩ := by
 have hl := oneP_len h; unfold toksA
 show toksF (l.length + 1 + 1) at_ (c :: l) = _
 rw [toksF]; rw [if_neg (by rw [hb]; decide), if_neg hr, h]; simp only; rw [toksF_more _ (((c :: l).drop len).length + 1) _ _ (by rw [List.length_drop, List.length_cons]; omega) (by omega)]
def Out.app (ts : List Tok) : Out → Out
 | .ok us => .ok (ts ++ us)
 | .bad a e => .bad a e
theorem Out.app_nil (o : Out) : o.app [] = o := by cases o <;> rfl
theorem Out.app_cons (ts : List Tok) (t : Tok) (o : Out) : (o.cons t).app ts = o.app (ts ++ [t]) := by
 cases o <;> simp [Out.cons, Out.app]
theorem runL_all {f : UInt8 → Bool} : ∀ (l : List UInt8) (j : Nat) (hj : j < l.length), j < runL f l → f l[j] = true
 | [], j, hj, _ => absurd hj (by simp)
 | c :: l, j, hj, h => by
  unfold runL at h
  split at h
  ·rename_i hc
   cases j with
   | zero => exact hc
   | succ j => simp only [List.getElem_cons_succ]; exact runL_all l j (by simpa using hj) (by omega)
  ·omega
theorem runL_stop {f : UInt8 → Bool} : ∀ (l : List UInt8) (h : runL f l < l.length), f l[runL f l] = false
 | [], h => absurd h (by simp)
 | c :: l, h => by
  by_cases hc : f c = true
  ·have e : runL f (c :: l) = runL f l + 1 := by rw [runL, if_pos hc]
   have h' : runL f l < l.length := by rw [e] at h; simpa using h
   have := runL_stop l h'; simp only [e, List.getElem_cons_succ]; exact this
  ·have e : runL f (c :: l) = 0 := by rw [runL, if_neg hc]
   simp only [e, List.getElem_cons_zero]; simpa using hc
theorem runL_take_all {f : UInt8 → Bool} (l : List UInt8) : ∀ x ∈ l.take (runL f l), f x = true := by
 intro x hx; obtain ⟨i, hi, rfl⟩ := List.mem_iff_getElem.1 hx; rw [List.length_take] at hi; rw [List.getElem_take]; exact runL_all l i (by omega) (by omega)
theorem decStep_eq (a : Nat) (c : UInt8) : decStep a c = a * 10 + (c.toNat - 48) := by unfold decStep; rfl
theorem decV_nil (a : Nat) : decV a [] = a := by unfold decV; exact List.foldl_nil
theorem decV_cons (a : Nat) (c : UInt8) (l : List UInt8) : decV a (c :: l) = decV (a * 10 + (c.toNat - 48)) l := by
 unfold decV; rw [List.foldl_cons, decStep_eq]
theorem decV_snoc (a : Nat) (l : List UInt8) (c : UInt8) : decV a (l ++ [c]) = decV a l * 10 + (c.toNat - 48) := by
 unfold decV; rw [List.foldl_append, List.foldl_cons, List.foldl_nil, decStep_eq]
theorem dig_bd {c : UInt8} (h : digB c = true) : 48 ≤ c.toNat ∧ c.toNat ≤ 57 := by
 unfold digB at h; simpa using h
theorem decV_lt : ∀ (l : List UInt8) (a k : Nat), (∀ x ∈ l, digB x = true) → a < 10 ^ k → decV a l < 10 ^ (l.length + k)
 | [], a, k, _, ha => by rw [List.length_nil, Nat.zero_add, decV_nil]; exact ha
 | c :: l, a, k, h, ha => by
  rw [decV_cons]; have hc := dig_bd (h c (by simp)); have := decV_lt l (a * 10 + (c.toNat - 48)) (k + 1) (fun x hx => h x (by simp [hx])) (by rw [Nat.pow_succ]; omega); rw [List.length_cons]; rw [show l.length + 1 + k = l.length + (k + 1) from by omega]; exact this
theorem numFrom_le (l : List UInt8) : numFrom l ≤ 1 := by unfold numFrom; split <;> omega
theorem numP_ok {l : List UInt8} {kd : Nat} {t : List UInt8} {n : Int} {len : Nat} (h : numP l = .ok kd t n len) : ∃ D, 1 ≤ D ∧ D ≤ 18 ∧ len = numFrom l + D ∧ kd = 2 ∧ t = l.take len ∧ runL digB (l.drop (numFrom l)) = D ∧
  n = (if numFrom l = 1 then -1 else 1) * (decV 0 ((l.drop (numFrom l)).take D) : Int) ∧ ¬ ((l.getD (numFrom l) 0).toNat = 48 ∧ 1 < D) ∧ ¬ (len < l.length ∧ (letB (l.getD len 0) = true ∨ (l.getD len 0).toNat = 46)) := by
 unfold numP at h; simp only at h
 split at h
 ·cases h
 ·split at h
  ·cases h
  ·split at h
   ·cases h
   ·split at h
    ·cases h
    ·rename_i h1 h2 h3 h4
     injection h with e1 e2 e3 e4
     refine ⟨runL digB (l.drop (numFrom l)), by omega, by omega, e4.symm, e1.symm, by rw [← e2, e4], rfl, ?_, fun h => h2 ⟨h.1, by omega⟩, by rw [← e4]; exact h3⟩
     rw [← e3, Nat.add_sub_cancel_left]
theorem toks_ind {P : Nat → List UInt8 → Prop} (h0 : ∀ a, P a [])
  (hb : ∀ a c l, blkB c = true → P (a + 1) l → P a (c :: l))
  (hr : ∀ a c l, c.toNat = 35 → P (a + 1 + runL lineB l) (l.drop (runL lineB l)) → P a (c :: l))
  (hx : ∀ a c l off e, blkB c = false → c.toNat ≠ 35 → oneP (c :: l) = .bad off e → P a (c :: l))
  (ho : ∀ a c l k t n len, blkB c = false → c.toNat ≠ 35 → oneP (c :: l) = .ok k t n len → P (a + len) ((c :: l).drop len) → P a (c :: l)) :
  ∀ (m : Nat) (a : Nat) (l : List UInt8), l.length ≤ m → P a l
 | _, a, [], _ => h0 a
 | 0, _, _ :: _, h => by simp at h
 | m + 1, a, c :: l, h => by
  simp only [List.length_cons] at h
  by_cases h1 : blkB c = true
  ·exact hb a c l h1 (toks_ind h0 hb hr hx ho m _ _ (by omega))
  by_cases h2 : c.toNat = 35
  ·exact hr a c l h2 (toks_ind h0 hb hr hx ho m _ _ (by rw [List.length_drop]; omega))
  cases h3 : oneP (c :: l) with
  | bad off e => exact hx a c l off e (by simpa using h1) h2 h3
  | ok k t n len =>
   have := oneP_len h3; exact ho a c l k t n len (by simpa using h1) h2 h3 (toks_ind h0 hb hr hx ho m _ _ (by rw [List.length_drop, List.length_cons]; omega))
theorem toksA_ind {P : Nat → List UInt8 → Prop} (h0 : ∀ a, P a [])
  (hb : ∀ a c l, blkB c = true → P (a + 1) l → P a (c :: l))
  (hr : ∀ a c l, c.toNat = 35 → P (a + 1 + runL lineB l) (l.drop (runL lineB l)) → P a (c :: l))
  (hx : ∀ a c l off e, blkB c = false → c.toNat ≠ 35 → oneP (c :: l) = .bad off e → P a (c :: l))
  (ho : ∀ a c l k t n len, blkB c = false → c.toNat ≠ 35 → oneP (c :: l) = .ok k t n len → P (a + len) ((c :: l).drop len) → P a (c :: l)) (a : Nat) (l : List UInt8) : P a l :=
 toks_ind h0 hb hr hx ho l.length a l (Nat.le_refl _)
theorem Out.cons_ok {t : Tok} {o : Out} {ts : List Tok} (h : o.cons t = .ok ts) : ∃ us, o = .ok us ∧ ts = t :: us := by
 cases o with
 | ok us => injection h with h; exact ⟨us, rfl, h.symm⟩
 | bad a e => cases h
theorem Out.cons_bad {t : Tok} {o : Out} {a e : Nat} (h : o.cons t = .bad a e) : o = .bad a e := by
 cases o with
 | ok us => cases h
 | bad a' e' => exact h
theorem toks_ok {s : List UInt8} {ts : List Tok} (h : toks s = .ok ts) : s.length ≤ 2000 ∧ toksA 0 s = .ok ts := by
 unfold toks at h
 split at h
 ·cases h
 ·exact ⟨by omega, h⟩
theorem oneP_cons (c : UInt8) (l : List UInt8) : oneP (c :: l) =
  if letB c then (if 32 < runL ldB (c :: l) then .bad 0 2 else .ok 1 ((c :: l).take (runL ldB (c :: l))) 0 (runL ldB (c :: l)))
  else if c.toNat = 45 ∨ digB c = true then numP (c :: l)
  else if c.toNat = 34 then txtP [] 1 l
  else if dotsB (c :: l) then .ok 4 [46, 46, 46] 0 3
  else if signB c then .ok 4 [c] 0 1
  else .bad 0 4 := rfl
def Tok.upp (n : Nat) (t : Tok) : Tok := ⟨t.kind, t.text, t.n, t.at_ + n⟩
def Out.up (n : Nat) : Out → Out
 | .ok ts => .ok (ts.map (Tok.upp n))
 | .bad a e => .bad (a + n) e
theorem numP_take {l : List UInt8} {kd : Nat} {t : List UInt8} {n : Int} {len : Nat} (h : numP l = .ok kd t n len) : kd = 2 ∧ t = l.take len := by
 obtain ⟨D, _, _, _, h1, h2, _⟩ := numP_ok h; exact ⟨h1, h2⟩
structure Stand (a : Nat) (l : List UInt8) (ts : List Tok) : Prop where
 one : 0 < ts.length
 kinds : ∀ i (h : i < ts.length), (ts[i].kind = 0 ↔ i = ts.length - 1) ∧ ts[i].kind ≤ 4
 rise : ∀ i (h : i + 1 < ts.length), ts[i].at_ < ts[i + 1].at_
 there : ∀ i (h : i < ts.length), a ≤ ts[i].at_ ∧ ts[i].at_ ≤ a + l.length ∧ (ts[i].kind ≠ 3 → ts[i].kind ≠ 0 → (l.drop (ts[i].at_ - a)).take ts[i].text.length = ts[i].text)
 last : ∀ h : ts.length - 1 < ts.length, ts[ts.length - 1].at_ = a + l.length
theorem Stand.far {a b : Nat} {l m : List UInt8} {ts : List Tok} (h : Stand b m ts) (hb : a ≤ b) (hl : m = l.drop (b - a)) (hbl : b - a ≤ l.length) : Stand a l ts := by
 have hm : m.length = l.length - (b - a) := by rw [hl, List.length_drop]
 refine ⟨h.one, h.kinds, h.rise, fun i hi => ?_, fun hi => by rw [h.last hi, hm]; omega⟩
 obtain ⟨h1, h2, h3⟩ := h.there i hi; refine ⟨by omega, by omega, fun k1 k2 => ?_⟩
 have := h3 k1 k2; rw [hl, List.drop_drop] at this; rw [show ts[i].at_ - a = b - a + (ts[i].at_ - b) from by omega]; exact this
def likeT (t u : Tok) : Prop := t.kind = u.kind ∧ t.text = u.text ∧ t.n = u.n
def LikeT : List Tok → List Tok → Prop
 | [], [] => True
 | t :: ts, u :: us => likeT t u ∧ LikeT ts us
 | _, _ => False
theorem LikeT.len : ∀ {ts us : List Tok}, LikeT ts us → us.length = ts.length
 | [], [], _ => rfl
 | t :: ts, u :: us, h => by simp only [List.length_cons]; rw [LikeT.len h.2]
theorem LikeT.get : ∀ {ts us : List Tok}, LikeT ts us → ∀ i (h1 : i < ts.length) (h2 : i < us.length), likeT ts[i] us[i]
 | [], [], _, i, h1, _ => absurd h1 (by simp)
 | t :: ts, u :: us, h, 0, _, _ => h.1
 | t :: ts, u :: us, h, i + 1, h1, h2 => LikeT.get h.2 i (by simpa using h1) (by simpa using h2)
theorem runL_full {f : UInt8 → Bool} : ∀ (l : List UInt8), (∀ x ∈ l, f x = true) → runL f l = l.length
 | [], _ => rfl
 | c :: l, h => by rw [runL, if_pos (h c (by simp)), runL_full l (fun x hx => h x (by simp [hx]))]; rfl
theorem runL_cut {f : UInt8 → Bool} : ∀ (l r : List UInt8), (runL f l < l.length ∨ ∀ hr : 0 < r.length, f r[0] = false) → runL f (l ++ r) = runL f l
 | [], r, h => by
  rcases h with h | h
  ·simp at h
  ·cases r with
   | nil => rfl
   | cons c r =>
    have := h (by simp); have this : f c = false := this
    show runL f (c :: r) = 0
    simp [runL, this]
 | c :: l, r, h => by
  rw [List.cons_append, runL, runL]
  split
  ·rename_i hc
   rw [runL_cut l r ?_]
   rcases h with h | h
   ·rw [runL, if_pos hc] at h; left; simpa using h
   ·exact .inr h
  ·rfl
theorem pow18 (k : Nat) (hk : k ≤ 18) : 10 ^ k ≤ 10 ^ 18 := Nat.pow_le_pow_right (by decide) hk
theorem numP_eq {l : List UInt8} {f r : Nat} (hf : numFrom l = f) (hr : runL digB (l.drop f) = r) : numP l =
  if f + r = f then .bad (f + r) 4
  else if (l.getD f 0).toNat = 48 ∧ f + 1 < f + r then .bad (f + 1) 4
  else if f + r < l.length ∧ (letB (l.getD (f + r) 0) = true ∨ (l.getD (f + r) 0).toNat = 46) then .bad (f + r) 4
  else if 18 < r then .bad 0 1
  else .ok 2 (l.take (f + r)) ((if f = 1 then -1 else 1) * (decV 0 ((l.drop f).take r) : Int)) (f + r) := by
 subst hf; subst hr; unfold numP; simp only [Nat.add_sub_cancel_left]
theorem txtP_qq (acc : List UInt8) (k : Nat) {c : UInt8} (l : List UInt8) (h : c.toNat = 34) : txtP acc k (c :: l) = if 200 < acc.length then .bad 0 2 else .ok 3 acc 0 (k + 1) := by rw [txtP.eq_def]; simp only; rw [if_pos h]
def escY (d : UInt8) : Option UInt8 := if d.toNat = 34 ∨ d.toNat = 92 ∨ d.toNat = 47 then some d else if d.toNat = 110 then some 10 else if d.toNat = 116 then some 9 else none
theorem txtP_ee (acc : List UInt8) (k : Nat) {c : UInt8} (d : UInt8) (l : List UInt8) (h : c.toNat = 92) : txtP acc k (c :: d :: l) = match escY d with | some x => txtP (acc ++ [x]) (k + 2) l | none => .bad (k + 1) 4 := by
 rw [txtP.eq_def]; simp only; rw [if_neg (by omega), if_neg (by omega), if_pos h]; unfold escY
 split
 ·rfl
 ·split
  ·rfl
  ·split <;> rfl
theorem txtP_oo (acc : List UInt8) (k : Nat) {c : UInt8} (l : List UInt8) (h1 : c.toNat ≠ 34) (h2 : c.toNat ≠ 10) (h3 : c.toNat ≠ 92) : txtP acc k (c :: l) = txtP (acc ++ [c]) (k + 1) l := by rw [txtP.eq_def]; simp only; rw [if_neg h1, if_neg h2, if_neg h3]
theorem getD_left (l r : List UInt8) (i : Nat) (h : i < l.length) : (l ++ r).getD i 0 = l.getD i 0 := by
 rw [List.getD_eq_getElem?_getD, List.getD_eq_getElem?_getD, List.getElem?_append_left h]
theorem ldB_no {g : UInt8} (h : ldB g = false) : letB g = false ∧ digB g = false := by unfold ldB at h; simpa using h
theorem dots_first {c : UInt8} (l : List UInt8) (h : c.toNat ≠ 46) : dotsB (c :: l) = false := by
 unfold dotsB
 apply decide_eq_false
 intro e; simp at e; exact h e.1
theorem u8_of {c : UInt8} {n : Nat} (hn : n < 256) (h : c.toNat = n) : c = UInt8.ofNat n := by
 apply UInt8.toNat_inj.1; rw [h]; simp; omega
structure NumI (K k : Nat) (l : List UInt8) : Prop where
 digs : ∀ x ∈ l, digB x = true
 val : decV k l = K
 first : k = 0 → l = [] ∨ (l = [48] ∧ K = 0) ∨ ∃ c r, l = c :: r ∧ c.toNat ≠ 48
 len : l.length ≤ 18
theorem decV_ge : ∀ (l : List UInt8) (a : Nat), a * 10 ^ l.length ≤ decV a l
 | [], a => by rw [decV_nil]; simp
 | c :: l, a => by
  rw [decV_cons, List.length_cons, Nat.pow_succ]; have := decV_ge l (a * 10 + (c.toNat - 48)); have h2 : (a * 10) * 10 ^ l.length ≤ (a * 10 + (c.toNat - 48)) * 10 ^ l.length := Nat.mul_le_mul (by omega) (Nat.le_refl _); have e : a * (10 ^ l.length * 10) = a * 10 * 10 ^ l.length := by rw [Nat.mul_comm (10 ^ l.length) 10, Nat.mul_assoc]
  omega
theorem NumI.start (K : Nat) : NumI K K [] := ⟨by simp, decV_nil K, fun _ => .inl rfl, by simp⟩
theorem dig_of (d : Nat) (h : d < 10) : digB (UInt8.ofNat (48 + d)) = true ∧ (UInt8.ofNat (48 + d)).toNat = 48 + d := by
 have e : (UInt8.ofNat (48 + d)).toNat = 48 + d := by simp; omega
 refine ⟨?_, e⟩
 unfold digB; rw [e]; simp; omega
theorem NumI.step {K k : Nat} {l : List UInt8} (h : NumI K k l) (hK : K < 1000000000000000000) (hg : 0 < k ∨ l = []) : NumI K (k / 10) (UInt8.ofNat (48 + k % 10) :: l) := by
 obtain ⟨d1, d2⟩ := dig_of (k % 10) (by omega); refine ⟨fun x hx => ?_, ?_, fun h0 => ?_, ?_⟩
 ·rcases List.mem_cons.1 hx with rfl | hx
  ·exact d1
  ·exact h.digs x hx
 ·rw [decV_cons, d2, show k / 10 * 10 + (48 + k % 10 - 48) = k from by omega]; exact h.val
 ·by_cases hk : k = 0
  ·have hl : l = [] := by rcases hg with h | h; exact absurd hk (by omega); exact h
   subst hl; subst hk; have := h.val; rw [decV_nil] at this; exact .inr (.inl ⟨rfl, this.symm⟩)
  ·exact .inr (.inr ⟨_, _, rfl, by rw [d2]; omega⟩)
 ·rw [List.length_cons]
  rcases hg with hg | hg
  ·have h1 := decV_ge l k; rw [h.val] at h1; have h2 : 1 * 10 ^ l.length ≤ k * 10 ^ l.length := Nat.mul_le_mul hg (Nat.le_refl _); have h3 : 10 ^ l.length < 10 ^ 18 := by
    have : 10 ^ 18 = 1000000000000000000 := by decide
    omega
   have := (Nat.pow_lt_pow_iff_right (a := 10) (by decide)).1 h3; omega
  ·subst hg; simp
theorem dig_nolet {c : UInt8} (h : digB c = true) : letB c = false := by
 have := dig_bd h; unfold letB; simp only [Bool.or_eq_false_iff, Bool.and_eq_false_iff, decide_eq_false_iff_not]; omega
theorem dig_misc {c : UInt8} (h : digB c = true) : blkB c = false ∧ c.toNat ≠ 35 ∧ c.toNat ≠ 45 := by
 have := dig_bd h; unfold blkB; simp only [Bool.or_eq_false_iff, decide_eq_false_iff_not]; omega
def sgn (neg : Bool) (l : List UInt8) : List UInt8 := if neg then 45 :: l else l
theorem numFrom_sgn {neg : Bool} {l x : List UInt8} (hd : ∀ c ∈ l, digB c = true) (hl : l ≠ []) : numFrom (sgn neg l ++ x) = if neg then 1 else 0 := by
 unfold sgn numFrom
 cases neg
 ·cases l with
  | nil => exact absurd rfl hl
  | cons c l =>
   have := (dig_misc (hd c (by simp))).2.2; simp [this]
 ·simp
theorem drop_sgn {neg : Bool} {l x : List UInt8} : (sgn neg l ++ x).drop (if neg then 1 else 0) = l ++ x := by
 unfold sgn; cases neg <;> simp
theorem len_sgn (neg : Bool) (l : List UInt8) : (sgn neg l).length = (if neg then 1 else 0) + l.length := by
 unfold sgn; cases neg
 ·simp
 ·simp; omega
theorem numP_sgn {neg : Bool} {l : List UInt8} (x : List UInt8) (hd : ∀ c ∈ l, digB c = true) (hl : l ≠ []) (h18 : l.length ≤ 18) (h0 : l = [48] ∨ ∃ c r, l = c :: r ∧ c.toNat ≠ 48) (hx : ∀ h : 0 < x.length, digB x[0] = false) :
  numP (sgn neg l ++ x) = if 0 < x.length ∧ (letB (x.getD 0 0) = true ∨ (x.getD 0 0).toNat = 46) then .bad (sgn neg l).length 4 else .ok 2 (sgn neg l) ((if neg then -1 else 1) * (decV 0 l : Int)) (sgn neg l).length := by
 obtain ⟨f, hf⟩ : ∃ f, (if neg then 1 else 0) = f := ⟨_, rfl⟩; have e1 : numFrom (sgn neg l ++ x) = f := by rw [numFrom_sgn hd hl, hf]
 have e2 : (sgn neg l ++ x).drop f = l ++ x := by rw [← hf]; exact drop_sgn
 have e3 : runL digB ((sgn neg l ++ x).drop f) = l.length := by
  rw [e2, runL_cut _ _ (.inr hx), runL_full _ hd]
 have hlen : (sgn neg l).length = f + l.length := by rw [len_sgn, hf]
 have hlp : 0 < l.length := by cases l with | nil => exact absurd rfl hl | cons => simp
 have hg : (sgn neg l ++ x).getD f 0 = l.getD 0 0 := by
  have : ((sgn neg l ++ x).drop f).getD 0 0 = (l ++ x).getD 0 0 := by rw [e2]
  rw [List.getD_eq_getElem?_getD, List.getElem?_drop, Nat.add_zero, ← List.getD_eq_getElem?_getD] at this; rw [this, getD_left _ _ _ hlp]
 have hg2 : (sgn neg l ++ x).getD (f + l.length) 0 = x.getD 0 0 := by
  rw [← hlen, List.getD_eq_getElem?_getD, List.getElem?_append_right (Nat.le_refl _), Nat.sub_self, ← List.getD_eq_getElem?_getD]
 rw [numP_eq e1 e3, if_neg (by omega), hg, hg2]; have hz : ¬ ((l.getD 0 0).toNat = 48 ∧ f + 1 < f + l.length) := by
  rintro ⟨h1, h2⟩
  rcases h0 with h0 | ⟨c, r, h0, hc⟩
  ·subst h0; simp at h2
  ·subst h0; exact hc h1
 rw [if_neg hz, List.length_append, hlen]
 by_cases hb : 0 < x.length ∧ (letB (x.getD 0 0) = true ∨ (x.getD 0 0).toNat = 46)
 ·rw [if_pos hb, if_pos ⟨by omega, hb.2⟩]
 ·rw [if_neg hb, if_neg (fun h => hb ⟨by omega, h.2⟩), if_neg (by omega), e2, ← hlen]
  congr 1
  ·rw [List.take_left]
  ·rw [List.take_left, ← hf]; cases neg <;> rfl
theorem oneP_sgn {neg : Bool} {l : List UInt8} (x : List UInt8) (hd : ∀ c ∈ l, digB c = true) (hl : l ≠ []) : oneP (sgn neg l ++ x) = numP (sgn neg l ++ x) ∧ ∃ c r, sgn neg l ++ x = c :: r ∧ blkB c = false ∧ c.toNat ≠ 35 := by
 cases neg
 ·cases l with
  | nil => exact absurd rfl hl
  | cons c l =>
   have hc := hd c (by simp); refine ⟨?_, c, l ++ x, rfl, (dig_misc hc).1, (dig_misc hc).2.1⟩
   show oneP (c :: (l ++ x)) = _
   rw [oneP_cons, if_neg (by rw [dig_nolet hc]; decide), if_pos (.inr hc)]; rfl
 ·refine ⟨?_, 45, l ++ x, rfl, by decide, by decide⟩
  show oneP (45 :: (l ++ x)) = _
  rw [oneP_cons, if_neg (by decide), if_pos (.inl (by decide))]; rfl
inductive VT where
 | mk (k : Nat) (n : Int) (s : List UInt8) (ks : List (List UInt8)) (vs : List VT)
def VT.zero : VT := .mk 0 0 [] [] []
inductive TR where
 | nm (s : List UInt8) (bang : Bool)
 | ls (t : TR) (bang : Bool)
structure AR where
 name : List UInt8
 v : VT
structure DR where
 name : List UInt8
 args : List AR
inductive SL where
 | mk (kind : Nat) (al name on_ : List UInt8) (args : List AR) (dirs : List DR) (sub : List SL)
structure VD where
 name : List UInt8
 t : TR
 has : Bool
 v : VT
structure OP where
 mut_ : Bool
 name : List UInt8
 vars : List VD
 sub : List SL
structure FR where
 name : List UInt8
 on_ : List UInt8
 sub : List SL
structure DC where
 ops : List OP
 frags : List FR
inductive PR (α : Type) where
 | ok (x : α) (r : List Tok)
 | bad (a e : Nat)
def PR.bind {α β : Type} (p : PR α) (f : α → List Tok → PR β) : PR β := match p with | .ok x r => f x r | .bad a e => .bad a e
def atT (r : List Tok) : Nat := match r with | [] => 0 | t :: _ => t.at_
def isK (k : Nat) (r : List Tok) : Bool := match r with | [] => false | t :: _ => decide (t.kind = k)
def isS (s : List UInt8) (r : List Tok) : Bool := match r with | [] => false | t :: _ => decide (t.kind = 4) && decide (t.text = s)
def isW (s : List UInt8) (r : List Tok) : Bool := match r with | [] => false | t :: _ => decide (t.kind = 1) && decide (t.text = s)
def isT (s : List UInt8) (r : List Tok) : Bool := isS s r || isW s r
def wantP (s : List UInt8) (r : List Tok) : PR Unit := if isT s r then .ok () r.tail else .bad (atT r) 4
def nameP (r : List Tok) : PR (List UInt8) := match r with | [] => .bad 0 4 | t :: r' => if t.kind = 1 then .ok t.text r' else .bad t.at_ 4
def manyP {α : Type} (f : List Tok → PR α) (close : List UInt8) : Nat → List α → List Tok → PR (List α)
 | 0, _, r => .bad (atT r) 4
 | n + 1, acc, r => (f r).bind fun x r1 => if isT close r1 then .ok (acc ++ [x]) r1.tail else manyP f close n (acc ++ [x]) r1
def anyP {α : Type} (f : List Tok → PR α) (close : List UInt8) : Nat → List α → List Tok → PR (List α)
 | 0, _, r => .bad (atT r) 4
 | n + 1, acc, r => if isT close r then .ok acc r.tail else (f r).bind fun x r1 => anyP f close n (acc ++ [x]) r1
def pairP (f : List Tok → PR VT) (r : List Tok) : PR (List UInt8 × VT) := (nameP r).bind fun s r1 => (wantP [58] r1).bind fun _ r2 => (f r2).bind fun v r3 => .ok (s, v) r3
def wTrue : List UInt8 := [116, 114, 117, 101]
def wFalse : List UInt8 := [102, 97, 108, 115, 101]
def wNull : List UInt8 := [110, 117, 108, 108]
def valueB (fixed : Bool) (f : List Tok → PR VT) : List Tok → PR VT
 | [] => .bad 0 4
 | t :: r =>
  if t.kind = 2 then .ok (.mk 1 t.n [] [] []) r
  else if t.kind = 3 then .ok (.mk 2 0 t.text [] []) r
  else if isT wTrue (t :: r) then .ok (.mk 3 1 [] [] []) r
  else if isT wFalse (t :: r) then .ok (.mk 3 0 [] [] []) r
  else if isT wNull (t :: r) then .ok VT.zero r
  else if t.kind = 1 then .ok (.mk 4 0 t.text [] []) r
  else if !fixed && isT [36] (t :: r) then (nameP r).bind fun s r1 => .ok (.mk 7 0 s [] []) r1
  else if isT [91] (t :: r) then (anyP f [93] (r.length + 1) [] r).bind fun vs r1 => .ok (.mk 5 0 [] [] vs) r1
  else if isT [123] (t :: r) then (anyP (pairP f) [125] (r.length + 1) [] r).bind fun ps r1 => .ok (.mk 6 0 [] (ps.map (·.1)) (ps.map (·.2))) r1
  else .bad t.at_ 4
def valueP (fixed : Bool) : Nat → List Tok → PR VT
 | 0, r => .bad (atT r) 5
 | d + 1, r => valueB fixed (valueP fixed d) r
def bangP (mk : Bool → TR) (r : List Tok) : PR TR := if isT [33] r then .ok (mk true) r.tail else .ok (mk false) r
def typP : Nat → List Tok → PR TR
 | 0, r => .bad (atT r) 5
 | d + 1, r => if isT [91] r then (typP d r.tail).bind fun t r1 => (wantP [93] r1).bind fun _ r2 => bangP (.ls t) r2 else (nameP r).bind fun s r1 => bangP (.nm s) r1
theorem bind_inv {α β : Type} {p : PR α} {f : α → List Tok → PR β} {y : β} {r : List Tok} (h : p.bind f = .ok y r) : ∃ x r1, p = .ok x r1 ∧ f x r1 = .ok y r := by
 cases p with
 | ok x r1 => exact ⟨x, r1, rfl, h⟩
 | bad a e => cases h
theorem isT_cons {s : List UInt8} {r : List Tok} (h : isT s r = true) : ∃ t r', r = t :: r' := by
 cases r with
 | nil => simp [isT, isS, isW] at h
 | cons t r' => exact ⟨t, r', rfl⟩
theorem isT_len {s : List UInt8} {r : List Tok} (h : isT s r = true) : r.tail.length < r.length := by
 obtain ⟨t, r', rfl⟩ := isT_cons h; simp
theorem nameP_len {r : List Tok} {s : List UInt8} {r1 : List Tok} (h : nameP r = .ok s r1) : r1.length < r.length := by
 cases r with
 | nil => cases h
 | cons t r' =>
  have h : (if t.kind = 1 then PR.ok t.text r' else PR.bad t.at_ 4) = .ok s r1 := h
  split at h
  ·injection h with _ h; subst h; simp
  ·cases h
theorem wantP_len {s : List UInt8} {r r1 : List Tok} {u : Unit} (h : wantP s r = .ok u r1) : r1.length < r.length := by
 unfold wantP at h
 split at h
 ·rename_i hs
  injection h with _ h; subst h; exact isT_len hs
 ·cases h
def Takes {α : Type} (f : List Tok → PR α) : Prop := ∀ r x r1, f r = .ok x r1 → r1.length < r.length
theorem anyP_len {α : Type} {f : List Tok → PR α} {close : List UInt8} (hf : Takes f) : ∀ (n : Nat) (acc : List α) (r : List Tok) (xs : List α) (r1 : List Tok), anyP f close n acc r = .ok xs r1 → r1.length < r.length
 | 0, _, _, _, _, h => by cases h
 | n + 1, acc, r, xs, r1, h => by
  rw [anyP] at h
  split at h
  ·rename_i hs
   injection h with _ h; subst h; exact isT_len hs
  ·obtain ⟨x, r2, h1, h2⟩ := bind_inv h; have := hf _ _ _ h1; have := anyP_len hf n _ _ _ _ h2; omega
theorem manyP_len {α : Type} {f : List Tok → PR α} {close : List UInt8} (hf : Takes f) : ∀ (n : Nat) (acc : List α) (r : List Tok) (xs : List α) (r1 : List Tok), manyP f close n acc r = .ok xs r1 → r1.length < r.length
 | 0, _, _, _, _, h => by cases h
 | n + 1, acc, r, xs, r1, h => by
  rw [manyP] at h; obtain ⟨x, r2, h1, h2⟩ := bind_inv h; have h3 := hf _ _ _ h1
  split at h2
  ·rename_i hs
   injection h2 with _ h2; subst h2
   have := isT_len hs; omega
  ·have := manyP_len hf n _ _ _ _ h2; omega
theorem pairP_takes {f : List Tok → PR VT} (hf : Takes f) : Takes (pairP f) := fun r x r1 h => by
 unfold pairP at h; obtain ⟨s, r2, h1, h2⟩ := bind_inv h; obtain ⟨u, r3, h3, h4⟩ := bind_inv h2; obtain ⟨v, r4, h5, h6⟩ := bind_inv h4
 injection h6 with _ h6; subst h6
 have := nameP_len h1; have := wantP_len h3; have := hf _ _ _ h5; omega
theorem valueB_takes {fixed : Bool} {f : List Tok → PR VT} (hf : Takes f) : Takes (valueB fixed f) := fun r x r1 h => by
 cases r with
 | nil => cases h
 | cons t r =>
  rw [show valueB fixed f (t :: r) = (if t.kind = 2 then .ok (.mk 1 t.n [] [] []) r
   else if t.kind = 3 then .ok (.mk 2 0 t.text [] []) r
   else if isT wTrue (t :: r) then .ok (.mk 3 1 [] [] []) r
   else if isT wFalse (t :: r) then .ok (.mk 3 0 [] [] []) r
   else if isT wNull (t :: r) then .ok VT.zero r
   else if t.kind = 1 then .ok (.mk 4 0 t.text [] []) r
   else if !fixed && isT [36] (t :: r) then (nameP r).bind fun s r1 => .ok (.mk 7 0 s [] []) r1
   else if isT [91] (t :: r) then (anyP f [93] (r.length + 1) [] r).bind fun vs r1 => .ok (.mk 5 0 [] [] vs) r1
   else if isT [123] (t :: r) then (anyP (pairP f) [125] (r.length + 1) [] r).bind fun ps r1 => .ok (.mk 6 0 [] (ps.map (·.1)) (ps.map (·.2))) r1
   else .bad t.at_ 4) from rfl] at h
  simp only [List.length_cons]
  repeat' split at h
  all_goals first
   | (injection h with _ h; subst h; omega)
   | (cases h; done)
   | (obtain ⟨s, r2, h1, h2⟩ := bind_inv h; injection h2 with _ h2; subst h2; first | (have := nameP_len h1; omega) | (have := anyP_len hf _ _ _ _ _ h1; omega) | (have := anyP_len (pairP_takes hf) _ _ _ _ _ h1; omega))
theorem valueP_takes (fixed : Bool) : ∀ d, Takes (valueP fixed d)
 | 0 => fun r x r1 h => by cases h
 | d + 1 => valueB_takes (valueP_takes fixed d)
theorem bangP_len {mk : Bool → TR} {r r1 : List Tok} {t : TR} (h : bangP mk r = .ok t r1) : r1.length ≤ r.length := by
 unfold bangP at h
 split at h
 ·injection h with _ h; subst h; simp
 ·injection h with _ h; subst h; exact Nat.le_refl _
theorem typP_takes : ∀ d, Takes (typP d)
 | 0 => fun r x r1 h => by cases h
 | d + 1 => fun r x r1 h => by
  rw [typP] at h
  split at h
  ·rename_i hs
   obtain ⟨t, r2, h1, h2⟩ := bind_inv h; obtain ⟨u, r3, h3, h4⟩ := bind_inv h2; have := isT_len hs; have := typP_takes d _ _ _ h1; have := wantP_len h3; have := bangP_len h4; omega
  ·obtain ⟨s, r2, h1, h2⟩ := bind_inv h; have := nameP_len h1; have := bangP_len h2; omega
theorem manyP_fuel {α : Type} {f : List Tok → PR α} (hf : Takes f) (close : List UInt8) : ∀ (n m : Nat) (acc : List α) (r : List Tok), r.length < n → r.length < m → manyP f close n acc r = manyP f close m acc r
 | 0, _, _, _, h, _ => by omega
 | _, 0, _, _, _, h => by omega
 | n + 1, m + 1, acc, r, h1, h2 => by
  rw [manyP, manyP]
  cases hq : f r with
  | bad a e => rfl
  | ok x r1 =>
   have := hf r x r1 hq
   show (if isT close r1 then PR.ok (acc ++ [x]) r1.tail else manyP f close n (acc ++ [x]) r1) = (if isT close r1 then PR.ok (acc ++ [x]) r1.tail else manyP f close m (acc ++ [x]) r1)
   rw [manyP_fuel hf close n m (acc ++ [x]) r1 (by omega) (by omega)]
theorem anyP_fuel {α : Type} {f : List Tok → PR α} (hf : Takes f) (close : List UInt8) : ∀ (n m : Nat) (acc : List α) (r : List Tok), r.length < n → r.length < m → anyP f close n acc r = anyP f close m acc r
 | 0, _, _, _, h, _ => by omega
 | _, 0, _, _, _, h => by omega
 | n + 1, m + 1, acc, r, h1, h2 => by
  rw [anyP, anyP]
  cases hq : f r with
  | bad a e => rfl
  | ok x r1 =>
   have := hf r x r1 hq
   show (if isT close r then PR.ok acc r.tail else anyP f close n (acc ++ [x]) r1) = (if isT close r then PR.ok acc r.tail else anyP f close m (acc ++ [x]) r1)
   rw [anyP_fuel hf close n m (acc ++ [x]) r1 (by omega) (by omega)]
structure IN where
 name : List UInt8
 t : TR
 has : Bool
 v : VT
structure FD where
 name : List UInt8
 args : List IN
 t : TR
 has : Bool
 v : VT
def FD.of (i : IN) : FD := ⟨i.name, [], i.t, i.has, i.v⟩
structure TD where
 kind : Nat
 name : List UInt8
 fields : List FD
 names : List (List UInt8)
def wOn : List UInt8 := [111, 110]
def wMutation : List UInt8 := [109, 117, 116, 97, 116, 105, 111, 110]
def wQuery : List UInt8 := [113, 117, 101, 114, 121]
def wFragment : List UInt8 := [102, 114, 97, 103, 109, 101, 110, 116]
def wDots : List UInt8 := [46, 46, 46]
def argP (d : Nat) (r : List Tok) : PR AR := (nameP r).bind fun s r1 => (wantP [58] r1).bind fun _ r2 => (valueP false d r2).bind fun v r3 => .ok ⟨s, v⟩ r3
def argsP (d : Nat) (r : List Tok) : PR (List AR) := if isS [40] r then manyP (argP d) [41] (r.length + 1) [] r.tail else .ok [] r
def dirP (d : Nat) (r : List Tok) : PR DR := (nameP r).bind fun s r1 => (argsP d r1).bind fun l r2 => .ok ⟨s, l⟩ r2
def dirsP (d : Nat) : Nat → List DR → List Tok → PR (List DR)
 | 0, _, r => .bad (atT r) 4
 | n + 1, acc, r => if isT [64] r then (dirP d r.tail).bind fun x r1 => dirsP d n (acc ++ [x]) r1 else .ok acc r
def selP (d : Nat) (g : List Tok → PR (List SL)) (r : List Tok) : PR SL :=
 if isT wDots r then
  if isT wOn r.tail then (nameP r.tail.tail).bind fun s r1 => (dirsP d (r1.length + 1) [] r1).bind fun ds r2 => (g r2).bind fun sub r3 => .ok (.mk 3 [] [] s [] ds sub) r3
  else if isK 1 r.tail then (nameP r.tail).bind fun s r1 => (dirsP d (r1.length + 1) [] r1).bind fun ds r2 => .ok (.mk 2 [] s [] [] ds []) r2
  else (dirsP d (r.tail.length + 1) [] r.tail).bind fun ds r2 => (g r2).bind fun sub r3 => .ok (.mk 3 [] [] [] [] ds sub) r3
 else (nameP r).bind fun s r1 =>
  (if isT [58] r1 then (nameP r1.tail).bind fun s2 r2 => .ok (s, s2) r2 else .ok (([] : List UInt8), s) r1).bind fun p r2 =>
   (argsP d r2).bind fun as r3 => (dirsP d (r3.length + 1) [] r3).bind fun ds r4 =>
    (if isS [123] r4 then g r4 else .ok [] r4).bind fun sub r5 => .ok (.mk 1 p.1 p.2 [] as ds sub) r5
def setP : Nat → List Tok → PR (List SL)
 | 0, r => .bad (atT r) 5
 | d + 1, r => (wantP [123] r).bind fun _ r1 => manyP (selP d (setP d)) [125] (r1.length + 1) [] r1
def varP (r : List Tok) : PR VD := (wantP [36] r).bind fun _ r1 => (nameP r1).bind fun s r2 => (wantP [58] r2).bind fun _ r3 => (typP 24 r3).bind fun t r4 =>
 if isT [61] r4 then (valueP true 24 r4.tail).bind fun v r5 => .ok ⟨s, t, true, v⟩ r5 else .ok ⟨s, t, false, VT.zero⟩ r4
def opP (r : List Tok) : PR OP :=
 (if isT wMutation r then .ok true r.tail else (wantP wQuery r).bind fun _ r1 => .ok false r1).bind fun m r1 =>
  (if isK 1 r1 then nameP r1 else .ok [] r1).bind fun s r2 =>
   (if isS [40] r2 then manyP varP [41] (r2.length + 1) [] r2.tail else .ok [] r2).bind fun vs r3 => (setP 24 r3).bind fun sub r4 => .ok ⟨m, s, vs, sub⟩ r4
def fragP (r : List Tok) : PR FR := if isW wOn r then .bad (atT r) 4 else (nameP r).bind fun s r1 => (wantP wOn r1).bind fun _ r2 => (nameP r2).bind fun o r3 => (setP 24 r3).bind fun sub r4 => .ok ⟨s, o, sub⟩ r4
def defP (d : DC) (r : List Tok) : PR DC :=
 if isS [123] r then (setP 24 r).bind fun sub r1 => .ok ⟨d.ops ++ [⟨false, [], [], sub⟩], d.frags⟩ r1
 else if isT wFragment r then (fragP r.tail).bind fun f r1 => .ok ⟨d.ops, d.frags ++ [f]⟩ r1
 else (opP r).bind fun o r1 => .ok ⟨d.ops ++ [o], d.frags⟩ r1
def docF : Nat → DC → List Tok → PR DC
 | 0, _, r => .bad (atT r) 4
 | n + 1, d, r => (defP d r).bind fun d1 r1 => if isK 0 r1 then .ok d1 r1 else docF n d1 r1
inductive DR1 where
 | ok (d : DC)
 | bad (a e : Nat)
def docP (s : List UInt8) : DR1 := match toks s with
 | .bad a e => .bad a e
 | .ok ts => match docF (ts.length + 1) ⟨[], []⟩ ts with
  | .ok d _ => .ok d
  | .bad a e => .bad a e
theorem isS_cons {s : List UInt8} {r : List Tok} (h : isS s r = true) : ∃ t r', r = t :: r' := by
 cases r with
 | nil => simp [isS] at h
 | cons t r' => exact ⟨t, r', rfl⟩
theorem argP_takes (d : Nat) : Takes (argP d) := fun r x r1 h => by
 unfold argP at h; obtain ⟨s, r2, h1, h2⟩ := bind_inv h; obtain ⟨u, r3, h3, h4⟩ := bind_inv h2; obtain ⟨v, r4, h5, h6⟩ := bind_inv h4
 injection h6 with _ h6; subst h6
 have := nameP_len h1; have := wantP_len h3; have := valueP_takes _ _ _ _ _ h5; omega
theorem argsP_len {d : Nat} {r r1 : List Tok} {l : List AR} (h : argsP d r = .ok l r1) : r1.length ≤ r.length := by
 unfold argsP at h
 split at h
 ·have := manyP_len (argP_takes d) _ _ _ _ _ h; rw [List.length_tail] at this; omega
 ·injection h with _ h; subst h; exact Nat.le_refl _
theorem dirP_takes (d : Nat) : Takes (dirP d) := fun r x r1 h => by
 unfold dirP at h; obtain ⟨s, r2, h1, h2⟩ := bind_inv h; obtain ⟨v, r4, h5, h6⟩ := bind_inv h2
 injection h6 with _ h6; subst h6
 have := nameP_len h1; have := argsP_len h5; omega
theorem dirsP_len (d : Nat) : ∀ (n : Nat) (acc : List DR) (r : List Tok) (l : List DR) (r1 : List Tok), dirsP d n acc r = .ok l r1 → r1.length ≤ r.length
 | 0, _, _, _, _, h => by cases h
 | n + 1, acc, r, l, r1, h => by
  rw [dirsP] at h
  split at h
  ·rename_i hs
   obtain ⟨x, r2, h1, h2⟩ := bind_inv h; have := isT_len hs; have := dirP_takes d _ _ _ h1; have := dirsP_len d n _ _ _ _ h2; omega
  ·injection h with _ h; subst h; exact Nat.le_refl _
theorem dirsP_fuel (d : Nat) : ∀ (n m : Nat) (acc : List DR) (r : List Tok), r.length < n → r.length < m → dirsP d n acc r = dirsP d m acc r
 | 0, _, _, _, h, _ => by omega
 | _, 0, _, _, _, h => by omega
 | n + 1, m + 1, acc, r, h1, h2 => by
  rw [dirsP, dirsP]
  by_cases hb : isT [64] r = true
  ·rw [if_pos hb, if_pos hb]; have h0 := isT_len hb
   cases hq : dirP d r.tail with
   | bad a e => rfl
   | ok x r1 =>
    have := dirP_takes d _ x r1 hq
    show dirsP d n (acc ++ [x]) r1 = dirsP d m (acc ++ [x]) r1
    rw [dirsP_fuel d n m (acc ++ [x]) r1 (by omega) (by omega)]
  ·rw [if_neg hb, if_neg hb]
theorem isS_T {s : List UInt8} {r : List Tok} (h : isS s r = true) : isT s r = true := by unfold isT; rw [h]; rfl
theorem selP_takes (d : Nat) {g : List Tok → PR (List SL)} (hg : Takes g) : Takes (selP d g) := fun r x r1 h => by
 unfold selP at h
 split at h
 ·rename_i hd
  have h0 := isT_len hd
  split at h
  ·rename_i ho
   have h1 := isT_len ho; obtain ⟨s, r2, h2, h⟩ := bind_inv h; obtain ⟨ds, r3, h3, h⟩ := bind_inv h; obtain ⟨sub, r4, h4, h⟩ := bind_inv h
   injection h with _ h; subst h
   have := nameP_len h2; have := dirsP_len d _ _ _ _ _ h3; have := hg _ _ _ h4; omega
  ·split at h
   ·obtain ⟨s, r2, h2, h⟩ := bind_inv h; obtain ⟨ds, r3, h3, h⟩ := bind_inv h
    injection h with _ h; subst h
    have := nameP_len h2; have := dirsP_len d _ _ _ _ _ h3; omega
   ·obtain ⟨ds, r3, h3, h⟩ := bind_inv h; obtain ⟨sub, r4, h4, h⟩ := bind_inv h
    injection h with _ h; subst h
    have := dirsP_len d _ _ _ _ _ h3; have := hg _ _ _ h4; omega
 ·obtain ⟨s, r2, h2, h⟩ := bind_inv h; obtain ⟨p, r3, h3, h⟩ := bind_inv h; obtain ⟨gs, r4, h4, h⟩ := bind_inv h; obtain ⟨ds, r5, h5, h⟩ := bind_inv h; obtain ⟨sub, r6, h6, h⟩ := bind_inv h
  injection h with _ h; subst h
  have a1 := nameP_len h2; have a2 : r3.length ≤ r2.length := by
   split at h3
   ·rename_i hc
    obtain ⟨s2, r7, h7, h3⟩ := bind_inv h3
    injection h3 with _ h3; subst h3
    have := isT_len hc; have := nameP_len h7; omega
   ·injection h3 with _ h3; subst h3; exact Nat.le_refl _
  have a3 := argsP_len h4; have a4 := dirsP_len d _ _ _ _ _ h5; have a5 : r6.length ≤ r5.length := by
   split at h6
   ·have := hg _ _ _ h6; omega
   ·injection h6 with _ h6; subst h6; exact Nat.le_refl _
  omega
theorem setP_takes : ∀ d, Takes (setP d)
 | 0 => fun r x r1 h => by cases h
 | d + 1 => fun r x r1 h => by
  rw [setP] at h; obtain ⟨u, r2, h1, h2⟩ := bind_inv h; have := wantP_len h1; have := manyP_len (selP_takes d (setP_takes d)) _ _ _ _ _ h2; omega
theorem varP_takes : Takes varP := fun r x r1 h => by
 unfold varP at h; obtain ⟨u, r2, h1, h⟩ := bind_inv h; obtain ⟨s, r3, h2, h⟩ := bind_inv h; obtain ⟨u2, r4, h3, h⟩ := bind_inv h; obtain ⟨t, r5, h4, h⟩ := bind_inv h; have := wantP_len h1; have := nameP_len h2; have := wantP_len h3; have := typP_takes _ _ _ _ h4
 split at h
 ·rename_i hs
  obtain ⟨v, r6, h5, h⟩ := bind_inv h
  injection h with _ h; subst h
  have := isT_len hs; have := valueP_takes _ _ _ _ _ h5; omega
 ·injection h with _ h; subst h; omega
theorem opP_takes : Takes opP := fun r x r1 h => by
 unfold opP at h; obtain ⟨m, r2, h1, h⟩ := bind_inv h; obtain ⟨s, r3, h2, h⟩ := bind_inv h; obtain ⟨vs, r4, h3, h⟩ := bind_inv h; obtain ⟨sub, r5, h4, h⟩ := bind_inv h
 injection h with _ h; subst h
 have a1 : r2.length < r.length := by
  split at h1
  ·rename_i hs; injection h1 with _ h1; subst h1; exact isT_len hs
  ·obtain ⟨u, r6, h6, h1⟩ := bind_inv h1
   injection h1 with _ h1; subst h1; exact wantP_len h6
 have a2 : r3.length ≤ r2.length := by
  split at h2
  ·have := nameP_len h2; omega
  ·injection h2 with _ h2; subst h2; exact Nat.le_refl _
 have a3 : r4.length ≤ r3.length := by
  split at h3
  ·have := manyP_len varP_takes _ _ _ _ _ h3; rw [List.length_tail] at this; omega
  ·injection h3 with _ h3; subst h3; exact Nat.le_refl _
 have a4 := setP_takes _ _ _ _ h4; omega
theorem fragP_takes : Takes fragP := fun r x r1 h => by
 unfold fragP at h
 split at h
 ·cases h
 ·obtain ⟨s, r2, h1, h⟩ := bind_inv h; obtain ⟨u, r3, h2, h⟩ := bind_inv h; obtain ⟨o, r4, h3, h⟩ := bind_inv h; obtain ⟨sub, r5, h4, h⟩ := bind_inv h
  injection h with _ h; subst h
  have := nameP_len h1; have := wantP_len h2; have := nameP_len h3; have := setP_takes _ _ _ _ h4; omega
theorem defP_takes (d : DC) : Takes (defP d) := fun r x r1 h => by
 unfold defP at h
 split at h
 ·obtain ⟨sub, r2, h1, h⟩ := bind_inv h
  injection h with _ h; subst h
  exact setP_takes _ _ _ _ h1
 ·split at h
  ·rename_i hs
   obtain ⟨f, r2, h1, h⟩ := bind_inv h
   injection h with _ h; subst h
   have := isT_len hs; have := fragP_takes _ _ _ h1; omega
  ·obtain ⟨o, r2, h1, h⟩ := bind_inv h
   injection h with _ h; subst h
   exact opP_takes _ _ _ h1
theorem docF_fuel : ∀ (n m : Nat) (d : DC) (r : List Tok), r.length < n → r.length < m → docF n d r = docF m d r
 | 0, _, _, _, h, _ => by omega
 | _, 0, _, _, _, h => by omega
 | n + 1, m + 1, d, r, h1, h2 => by
  rw [docF, docF]
  cases hq : defP d r with
  | bad a e => rfl
  | ok x r1 =>
   have := defP_takes d r x r1 hq
   show (if isK 0 r1 then PR.ok x r1 else docF n x r1) = (if isK 0 r1 then PR.ok x r1 else docF m x r1)
   rw [docF_fuel n m x r1 (by omega) (by omega)]
def NZ {α : Type} : PR α → Prop
 | .ok _ _ => True
 | .bad _ e => e ≠ 0
theorem nz_bind {α β : Type} {p : PR α} {f : α → List Tok → PR β} (h : NZ p) (hf : ∀ x r, NZ (f x r)) : NZ (p.bind f) := by
 cases p with
 | ok x r => exact hf x r
 | bad a e => exact h
theorem nz_if {α : Type} {c : Prop} [Decidable c] {p q : PR α} (h1 : NZ p) (h2 : NZ q) : NZ (if c then p else q) := by
 split
 ·exact h1
 ·exact h2
theorem nz_want (s : List UInt8) (r : List Tok) : NZ (wantP s r) := by unfold wantP; exact nz_if trivial (by show (4 : Nat) ≠ 0; decide)
theorem nz_name (r : List Tok) : NZ (nameP r) := by
 cases r with
 | nil => show (4 : Nat) ≠ 0; decide
 | cons t r => show NZ (if t.kind = 1 then .ok t.text r else .bad t.at_ 4); exact nz_if trivial (by show (4 : Nat) ≠ 0; decide)
theorem nz_many {α : Type} {f : List Tok → PR α} (hf : ∀ r, NZ (f r)) (c : List UInt8) : ∀ (n : Nat) (acc : List α) (r : List Tok), NZ (manyP f c n acc r)
 | 0, _, _ => by show (4 : Nat) ≠ 0; decide
 | n + 1, acc, r => by rw [manyP]; exact nz_bind (hf r) fun x r1 => nz_if trivial (nz_many hf c n _ _)
theorem nz_any {α : Type} {f : List Tok → PR α} (hf : ∀ r, NZ (f r)) (c : List UInt8) : ∀ (n : Nat) (acc : List α) (r : List Tok), NZ (anyP f c n acc r)
 | 0, _, _ => by show (4 : Nat) ≠ 0; decide
 | n + 1, acc, r => by rw [anyP]; exact nz_if trivial (nz_bind (hf r) fun x r1 => nz_any hf c n _ _)
theorem nz_pair {f : List Tok → PR VT} (hf : ∀ r, NZ (f r)) (r : List Tok) : NZ (pairP f r) := nz_bind (nz_name _) fun _ _ => nz_bind (nz_want _ _) fun _ _ => nz_bind (hf _) fun _ _ => trivial
theorem nz_valueB (fixed : Bool) {f : List Tok → PR VT} (hf : ∀ r, NZ (f r)) (r : List Tok) : NZ (valueB fixed f r) := by
 cases r with
 | nil => show (4 : Nat) ≠ 0; decide
 | cons t r =>
  show NZ (if t.kind = 2 then .ok (.mk 1 t.n [] [] []) r
   else if t.kind = 3 then .ok (.mk 2 0 t.text [] []) r
   else if isT wTrue (t :: r) then .ok (.mk 3 1 [] [] []) r
   else if isT wFalse (t :: r) then .ok (.mk 3 0 [] [] []) r
   else if isT wNull (t :: r) then .ok VT.zero r
   else if t.kind = 1 then .ok (.mk 4 0 t.text [] []) r
   else if !fixed && isT [36] (t :: r) then (nameP r).bind fun s r1 => .ok (.mk 7 0 s [] []) r1
   else if isT [91] (t :: r) then (anyP f [93] (r.length + 1) [] r).bind fun vs r1 => .ok (.mk 5 0 [] [] vs) r1
   else if isT [123] (t :: r) then (anyP (pairP f) [125] (r.length + 1) [] r).bind fun ps r1 => .ok (.mk 6 0 [] (ps.map (·.1)) (ps.map (·.2))) r1
   else .bad t.at_ 4)
  exact nz_if trivial (nz_if trivial (nz_if trivial (nz_if trivial (nz_if trivial (nz_if trivial (nz_if (nz_bind (nz_name _) fun _ _ => trivial) (nz_if (nz_bind (nz_any hf _ _ _ _) fun _ _ => trivial) (nz_if (nz_bind (nz_any (nz_pair hf) _ _ _ _) fun _ _ => trivial) (by show (4 : Nat) ≠ 0; decide)))))))))
theorem nz_value (fixed : Bool) : ∀ (d : Nat) (r : List Tok), NZ (valueP fixed d r)
 | 0, r => by show (5 : Nat) ≠ 0; decide
 | d + 1, r => nz_valueB fixed (nz_value fixed d) r
theorem nz_bang (mk : Bool → TR) (r : List Tok) : NZ (bangP mk r) := by unfold bangP; exact nz_if trivial trivial
theorem nz_typ : ∀ (d : Nat) (r : List Tok), NZ (typP d r)
 | 0, r => by show (5 : Nat) ≠ 0; decide
 | d + 1, r => by rw [typP]; exact nz_if (nz_bind (nz_typ d _) fun _ _ => nz_bind (nz_want _ _) fun _ _ => nz_bang _ _) (nz_bind (nz_name _) fun _ _ => nz_bang _ _)
theorem nz_arg (d : Nat) (r : List Tok) : NZ (argP d r) := nz_bind (nz_name _) fun _ _ => nz_bind (nz_want _ _) fun _ _ => nz_bind (nz_value _ _ _) fun _ _ => trivial
theorem nz_args (d : Nat) (r : List Tok) : NZ (argsP d r) := by unfold argsP; exact nz_if (nz_many (nz_arg d) _ _ _ _) trivial
theorem nz_dir (d : Nat) (r : List Tok) : NZ (dirP d r) := nz_bind (nz_name _) fun _ _ => nz_bind (nz_args _ _) fun _ _ => trivial
theorem nz_dirs (d : Nat) : ∀ (n : Nat) (acc : List DR) (r : List Tok), NZ (dirsP d n acc r)
 | 0, _, _ => by show (4 : Nat) ≠ 0; decide
 | n + 1, acc, r => by rw [dirsP]; exact nz_if (nz_bind (nz_dir d _) fun _ _ => nz_dirs d n _ _) trivial
theorem nz_sel (d : Nat) {g : List Tok → PR (List SL)} (hg : ∀ r, NZ (g r)) (r : List Tok) : NZ (selP d g r) := by
 unfold selP; exact nz_if (nz_if (nz_bind (nz_name _) fun _ _ => nz_bind (nz_dirs _ _ _ _) fun _ _ => nz_bind (hg _) fun _ _ => trivial) (nz_if (nz_bind (nz_name _) fun _ _ => nz_bind (nz_dirs _ _ _ _) fun _ _ => trivial) (nz_bind (nz_dirs _ _ _ _) fun _ _ => nz_bind (hg _) fun _ _ => trivial)))
  (nz_bind (nz_name _) fun _ _ => nz_bind (nz_if (nz_bind (nz_name _) fun _ _ => trivial) trivial) fun _ _ => nz_bind (nz_args _ _) fun _ _ => nz_bind (nz_dirs _ _ _ _) fun _ _ => nz_bind (nz_if (hg _) trivial) fun _ _ => trivial)
theorem nz_set : ∀ (d : Nat) (r : List Tok), NZ (setP d r)
 | 0, r => by show (5 : Nat) ≠ 0; decide
 | d + 1, r => by rw [setP]; exact nz_bind (nz_want _ _) fun _ _ => nz_many (nz_sel d (nz_set d)) _ _ _ _
theorem nz_var (r : List Tok) : NZ (varP r) := by
 unfold varP; exact nz_bind (nz_want _ _) fun _ _ => nz_bind (nz_name _) fun _ _ => nz_bind (nz_want _ _) fun _ _ => nz_bind (nz_typ _ _) fun _ _ => nz_if (nz_bind (nz_value _ _ _) fun _ _ => trivial) trivial
theorem nz_op (r : List Tok) : NZ (opP r) := by
 unfold opP; exact nz_bind (nz_if trivial (nz_bind (nz_want _ _) fun _ _ => trivial)) fun _ _ => nz_bind (nz_if (nz_name _) trivial) fun _ _ => nz_bind (nz_if (nz_many nz_var _ _ _ _) trivial) fun _ _ => nz_bind (nz_set _ _) fun _ _ => trivial
theorem nz_frag (r : List Tok) : NZ (fragP r) := by
 unfold fragP; exact nz_if (by show (4 : Nat) ≠ 0; decide) (nz_bind (nz_name _) fun _ _ => nz_bind (nz_want _ _) fun _ _ => nz_bind (nz_name _) fun _ _ => nz_bind (nz_set _ _) fun _ _ => trivial)
theorem nz_def (d : DC) (r : List Tok) : NZ (defP d r) := by
 unfold defP; exact nz_if (nz_bind (nz_set _ _) fun _ _ => trivial) (nz_if (nz_bind (nz_frag _) fun _ _ => trivial) (nz_bind (nz_op _) fun _ _ => trivial))
theorem nz_doc : ∀ (n : Nat) (d : DC) (r : List Tok), NZ (docF n d r)
 | 0, _, _ => by show (4 : Nat) ≠ 0; decide
 | n + 1, d, r => by rw [docF]; exact nz_bind (nz_def d r) fun _ _ => nz_if trivial (nz_doc n _ _)
theorem docF_bad {n : Nat} {d : DC} {r : List Tok} {a e : Nat} (h : docF n d r = .bad a e) : e ≠ 0 := by
 have := nz_doc n d r; rw [h] at this; exact this
def digS (n : Nat) : List UInt8 := if h : n < 10 then [UInt8.ofNat (48 + n)] else digS (n / 10) ++ [UInt8.ofNat (48 + n % 10)]
termination_by n
def numS (n : Int) : List UInt8 := sgn (decide (n < 0)) (digS n.natAbs)
def esc1 (c : UInt8) : List UInt8 := if c.toNat = 10 then [92, 110] else if c.toNat = 9 then [92, 116] else if c.toNat = 34 ∨ c.toNat = 92 then [92, c] else [c]
def escS (s : List UInt8) : List UInt8 := s.flatMap esc1
def quoS (s : List UInt8) : List UInt8 := 34 :: (escS s ++ [34])
inductive It where
 | tk (k : Nat) (src t : List UInt8) (n : Int)
 | sp (c : UInt8)
def It.src : It → List UInt8
 | .tk _ s _ _ => s
 | .sp c => [c]
def ren (l : List It) : List UInt8 := l.flatMap It.src
def tok0 : List It → List Tok
 | [] => []
 | .tk k _ t n :: l => ⟨k, t, n, 0⟩ :: tok0 l
 | .sp _ :: l => tok0 l
theorem ren_nil : ren [] = [] := rfl
theorem ren_cons (i : It) (l : List It) : ren (i :: l) = i.src ++ ren l := by unfold ren; rw [List.flatMap_cons]
theorem ren_app (a b : List It) : ren (a ++ b) = ren a ++ ren b := by unfold ren; rw [List.flatMap_append]
theorem tok0_app : ∀ (a b : List It), tok0 (a ++ b) = tok0 a ++ tok0 b
 | [], _ => rfl
 | .tk k s t n :: a, b => by show _ :: tok0 (a ++ b) = _ :: (tok0 a ++ tok0 b); rw [tok0_app a b]
 | .sp c :: a, b => tok0_app a b
def nmI (s : List UInt8) : It := .tk 1 s s 0
def nuI (n : Int) : It := .tk 2 (numS n) (numS n) n
def quI (s : List UInt8) : It := .tk 3 (quoS s) s 0
def sgI (c : UInt8) : It := .tk 4 [c] [c] 0
def doI : It := .tk 4 [46, 46, 46] [46, 46, 46] 0
structure NameOk (s : List UInt8) : Prop where
 first : ∃ c l, s = c :: l ∧ letB c = true
 all : ∀ c ∈ s, ldB c = true
 len : s.length ≤ 32
def OkIt : It → List UInt8 → Prop
 | .tk k s t n, x => ∃ c l, s = c :: l ∧ blkB c = false ∧ c.toNat ≠ 35 ∧ oneP (s ++ x) = .ok k t n s.length
 | .sp c, _ => blkB c = true
def OkF : List It → List UInt8 → Prop
 | [], _ => True
 | i :: l, x => OkIt i (ren l ++ x) ∧ OkF l x
theorem OkF.app : ∀ {a b : List It} {x : List UInt8}, OkF a (ren b ++ x) → OkF b x → OkF (a ++ b) x
 | [], _, _, _, h => h
 | i :: a, b, x, h1, h2 => ⟨by show OkIt i (ren (a ++ b) ++ x); rw [ren_app, List.append_assoc]; exact h1.1, OkF.app h1.2 h2⟩
def LikeP : List Tok → List Tok → Prop
 | [], [] => True
 | t :: r, u :: q => (t.kind = u.kind ∧ t.text = u.text ∧ t.n = u.n) ∧ LikeP r q
 | _, _ => False
theorem toks_ren : ∀ (l : List It) (a : Nat), OkF l [] → ∃ ts, toksA a (ren l) = .ok (ts ++ [⟨0, [], 0, a + (ren l).length⟩]) ∧ LikeP ts (tok0 l)
 | [], a, _ => ⟨[], by rw [ren_nil, toksA_nil]; rfl, trivial⟩
 | .sp c :: l, a, h => by
  obtain ⟨ts, h1, h2⟩ := toks_ren l (a + 1) h.2; refine ⟨ts, ?_, h2⟩
  have hb : blkB c = true := h.1; rw [ren_cons]
  show toksA a (c :: ren l) = _
  rw [toksA_blk a hb, h1]
  show _ = Out.ok (ts ++ [⟨0, [], 0, a + (ren l).length.succ⟩])
  rw [show a + 1 + (ren l).length = a + (ren l).length.succ from by omega]
 | .tk k s t n :: l, a, h => by
  obtain ⟨ts, h1, h2⟩ := toks_ren l (a + s.length) h.2; obtain ⟨c, s', rfl, hb, hr, ho⟩ := h.1; refine ⟨⟨k, t, n, a⟩ :: ts, ?_, ⟨⟨rfl, rfl, rfl⟩, h2⟩⟩
  rw [List.append_nil] at ho; have ho : oneP (c :: (s' ++ ren l)) = .ok k t n (c :: s').length := ho; rw [ren_cons]
  show toksA a (c :: (s' ++ ren l)) = _
  have hd : (c :: (s' ++ ren l)).drop (c :: s').length = ren l := by
   rw [show c :: (s' ++ ren l) = (c :: s') ++ ren l from rfl, List.drop_left]
  rw [toksA_one a hb hr ho, hd, h1]
  show Out.ok (⟨k, t, n, a⟩ :: (ts ++ [⟨0, [], 0, a + (c :: s').length + (ren l).length⟩])) = Out.ok ((⟨k, t, n, a⟩ :: ts) ++ [⟨0, [], 0, a + ((c :: s') ++ ren l).length⟩])
  rw [List.length_append, Nat.add_assoc]; rfl
def Sep (x : List UInt8) : Prop := ∀ g r, x = g :: r → ldB g = false ∧ g.toNat ≠ 46
theorem Sep.nil : Sep [] := fun _ _ h => by cases h
theorem Sep.cons {g : UInt8} (r : List UInt8) (h1 : ldB g = false) (h2 : g.toNat ≠ 46) : Sep (g :: r) := fun _ _ h => by injection h with h _; subst h; exact ⟨h1, h2⟩
theorem letter_misc {c : UInt8} (h : letB c = true) : blkB c = false ∧ c.toNat ≠ 35 := by
 unfold letB at h; unfold blkB; simp only [Bool.or_eq_true, Bool.and_eq_true, decide_eq_true_eq] at h; simp only [Bool.or_eq_false_iff, decide_eq_false_iff_not]; omega
theorem ok_nm {s x : List UInt8} (h : NameOk s) (hx : Sep x) : OkIt (nmI s) x := by
 obtain ⟨c, l, rfl, hc⟩ := h.first; refine ⟨c, l, rfl, (letter_misc hc).1, (letter_misc hc).2, ?_⟩
 have hrun : runL ldB ((c :: l) ++ x) = (c :: l).length := by
  rw [runL_cut _ _ (.inr fun hr => ?_), runL_full _ h.all]
  cases x with
  | nil => simp at hr
  | cons g r => exact (hx g r rfl).1
 show oneP (c :: (l ++ x)) = _
 rw [oneP_cons, if_pos hc]; have e : c :: (l ++ x) = (c :: l) ++ x := rfl; rw [e, hrun, if_neg (by have := h.len; omega), List.take_left]
theorem digS_lt {n : Nat} (h : n < 10) : digS n = [UInt8.ofNat (48 + n)] := by rw [digS, dif_pos h]
theorem digS_ge {n : Nat} (h : ¬ n < 10) : digS n = digS (n / 10) ++ [UInt8.ofNat (48 + n % 10)] := by rw [digS, dif_neg h]
theorem digS_all : ∀ (n : Nat), (∀ c ∈ digS n, digB c = true) ∧ digS n ≠ [] ∧ decV 0 (digS n) = n ∧ (n = 0 ∧ digS n = [48] ∨ ∃ c r, digS n = c :: r ∧ c.toNat ≠ 48) := by
 intro n
 induction n using Nat.strongRecOn with
 | ind n ih =>
  by_cases h : n < 10
  ·rw [digS_lt h]; have hd := dig_of n h; refine ⟨fun c hc => by rw [List.mem_singleton] at hc; subst hc; exact hd.1, by simp, ?_, ?_⟩
   ·rw [decV_cons, decV_nil, hd.2]; omega
   ·by_cases h0 : n = 0
    ·subst h0; exact .inl ⟨rfl, rfl⟩
    ·exact .inr ⟨_, _, rfl, by rw [hd.2]; omega⟩
  ·rw [digS_ge h]; obtain ⟨i1, i2, i3, i4⟩ := ih (n / 10) (by omega); have hd := dig_of (n % 10) (by omega); refine ⟨fun c hc => ?_, by simp, ?_, .inr ?_⟩
   ·rcases List.mem_append.1 hc with hc | hc
    ·exact i1 c hc
    ·rw [List.mem_singleton] at hc; subst hc; exact hd.1
   ·rw [decV_snoc, i3, hd.2]; omega
   ·rcases i4 with ⟨h0, _⟩ | ⟨c, r, e, hc⟩
    ·omega
    ·exact ⟨c, r ++ [UInt8.ofNat (48 + n % 10)], by rw [e]; rfl, hc⟩
theorem digS_len : ∀ (k n : Nat), n < 10 ^ (k + 1) → (digS n).length ≤ k + 1
 | 0, n, h => by rw [digS_lt (by simpa using h)]; simp
 | k + 1, n, h => by
  by_cases hn : n < 10
  ·rw [digS_lt hn]; simp
  ·rw [digS_ge hn, List.length_append, List.length_singleton]; have := digS_len k (n / 10) (by rw [Nat.pow_succ] at h; omega); omega
theorem abs_sgn (n : Int) : (if decide (n < 0) = true then -1 else 1) * (n.natAbs : Int) = n := by
 by_cases hn : n < 0
 ·rw [decide_eq_true hn, if_pos rfl, Int.ofNat_natAbs_of_nonpos (by omega)]; omega
 ·rw [decide_eq_false hn, if_neg (by decide), Int.natAbs_of_nonneg (by omega)]; omega
def NumOk (n : Int) : Prop := n.natAbs < 1000000000000000000
theorem ok_nu {n : Int} {x : List UInt8} (h : NumOk n) (hx : Sep x) : OkIt (nuI n) x := by
 obtain ⟨h1, h2, h3, h4⟩ := digS_all n.natAbs; obtain ⟨e1, c, r, e2, b1, b2⟩ := oneP_sgn (neg := decide (n < 0)) x h1 h2; have hx2 : ∀ h : 0 < x.length, digB x[0] = false := fun hl => by
  cases x with
  | nil => simp at hl
  | cons g r => exact (ldB_no (hx g r rfl).1).2
 have e3 := numP_sgn (neg := decide (n < 0)) x h1 h2 (digS_len 17 _ (by unfold NumOk at h; exact h)) (by rcases h4 with ⟨_, h4⟩ | h4; exact .inl h4; exact .inr h4) hx2
 rw [if_neg (by
  rintro ⟨hl, hb⟩
  cases x with
  | nil => simp at hl
  | cons g r =>
   have hg := hx g r rfl; have h5 : (g :: r).getD 0 0 = g := rfl; rw [h5] at hb
   rcases hb with hb | hb
   ·rw [(ldB_no hg.1).1] at hb; cases hb
   ·exact hg.2 hb), ← e1, h3] at e3
 have hv := abs_sgn n; rw [hv] at e3; have hs : ∃ c' l', numS n = c' :: l' := by
  have := len_sgn (decide (n < 0)) (digS n.natAbs); have hp : 0 < (digS n.natAbs).length := by cases hd : digS n.natAbs with | nil => exact absurd hd h2 | cons => simp
  unfold numS
  cases hq : sgn (decide (n < 0)) (digS n.natAbs) with
  | nil => rw [hq] at this; simp at this; omega
  | cons c' l' => exact ⟨c', l', rfl⟩
 obtain ⟨c', l', e4⟩ := hs; have e5 : c' = c := by
  have := congrArg List.head? e2; rw [show sgn (decide (n < 0)) (digS n.natAbs) = c' :: l' from e4] at this; simpa using this
 refine ⟨c', l', e4, by rw [e5]; exact b1, by rw [e5]; exact b2, e3⟩
theorem txtP_e1 (acc : List UInt8) (k : Nat) (c : UInt8) (l : List UInt8) : txtP acc k (esc1 c ++ l) = txtP (acc ++ [c]) (k + (esc1 c).length) l := by
 unfold esc1
 by_cases h10 : c.toNat = 10
 ·rw [if_pos h10, u8_of (by decide) h10]
  show txtP acc k (92 :: 110 :: l) = _
  rw [txtP_ee acc k 110 l (by decide)]; rfl
 rw [if_neg h10]
 by_cases h9 : c.toNat = 9
 ·rw [if_pos h9, u8_of (by decide) h9]
  show txtP acc k (92 :: 116 :: l) = _
  rw [txtP_ee acc k 116 l (by decide)]; rfl
 rw [if_neg h9]
 by_cases h3 : c.toNat = 34 ∨ c.toNat = 92
 ·rw [if_pos h3]
  show txtP acc k (92 :: c :: l) = _
  rw [txtP_ee acc k c l (by decide)]; unfold escY; rw [if_pos (by omega)]; rfl
 ·rw [if_neg h3]
  show txtP acc k (c :: l) = _
  rw [txtP_oo acc k l (by omega) h10 (by omega)]; rfl
theorem escS_cons (c : UInt8) (p : List UInt8) : escS (c :: p) = esc1 c ++ escS p := by unfold escS; rw [List.flatMap_cons]
theorem escS_app (p q : List UInt8) : escS (p ++ q) = escS p ++ escS q := by unfold escS; rw [List.flatMap_append]
theorem txtP_esc : ∀ (p acc : List UInt8) (k : Nat) (l : List UInt8), txtP acc k (escS p ++ l) = txtP (acc ++ p) (k + (escS p).length) l
 | [], acc, k, l => by show txtP acc k l = txtP (acc ++ []) (k + 0) l; rw [List.append_nil, Nat.add_zero]
 | c :: p, acc, k, l => by
  rw [escS_cons, List.append_assoc, txtP_e1, txtP_esc p, List.append_assoc, List.length_append, Nat.add_assoc]; rfl
theorem ok_qu {s x : List UInt8} (h : s.length ≤ 200) : OkIt (quI s) x := by
 refine ⟨34, escS s ++ [34], rfl, by decide, by decide, ?_⟩
 show oneP (34 :: ((escS s ++ [34]) ++ x)) = _
 rw [oneP_cons, if_neg (by decide), if_neg (by decide), if_pos (by decide), List.append_assoc, txtP_esc]
 show txtP ([] ++ s) (1 + (escS s).length) (34 :: x) = _
 rw [List.nil_append, txtP_qq _ _ _ (by decide), if_neg (by omega)]; unfold quoS; rw [List.length_cons, List.length_append, List.length_singleton, show 1 + (escS s).length + 1 = (escS s).length + 1 + 1 from by omega]
theorem ok_sg {c : UInt8} {x : List UInt8} (h : signB c = true) : OkIt (sgI c) x := by
 have hm : c.toNat ∈ [33, 36, 40, 41, 58, 61, 64, 91, 93, 123, 124, 125, 38] := of_decide_eq_true h; have hx : c.toNat = 33 ∨ c.toNat = 36 ∨ c.toNat = 40 ∨ c.toNat = 41 ∨ c.toNat = 58 ∨ c.toNat = 61 ∨ c.toNat = 64 ∨ c.toNat = 91 ∨ c.toNat = 93 ∨ c.toNat = 123 ∨ c.toNat = 124 ∨ c.toNat = 125 ∨ c.toNat = 38 := by simpa using hm
 have hb : blkB c = false := by unfold blkB; simp only [Bool.or_eq_false_iff, decide_eq_false_iff_not]; omega
 have hl : letB c = false := by
  unfold letB; simp only [Bool.or_eq_false_iff, Bool.and_eq_false_iff, decide_eq_false_iff_not]; omega
 have hd : digB c = false := by
  unfold digB; simp only [Bool.and_eq_false_iff, decide_eq_false_iff_not]; omega
 refine ⟨c, [], rfl, hb, by omega, ?_⟩
 show oneP (c :: x) = _
 rw [oneP_cons, if_neg (by rw [hl]; decide), if_neg (by rw [hd]; simp; omega), if_neg (by omega), if_neg (by rw [dots_first x (by omega)]; decide), if_pos h]; rfl
theorem ok_do {x : List UInt8} : OkIt doI x := by
 refine ⟨46, [46, 46], rfl, by decide, by decide, ?_⟩
 show oneP (46 :: 46 :: 46 :: x) = _
 rw [oneP_cons, if_neg (by decide), if_neg (by decide), if_neg (by decide), if_pos (by unfold dotsB; simp)]; rfl
end Go.Proofs.YtnkpoddbbdmipaaGreatDoor
