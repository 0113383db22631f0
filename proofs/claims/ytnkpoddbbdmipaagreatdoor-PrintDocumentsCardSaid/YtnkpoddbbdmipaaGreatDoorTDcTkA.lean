/- . -/
import Derived.Lib.ParseIntB
namespace Go.Proofs.YtnkpoddbbdmipaaGreatDoor
set_option linter.unusedVariables false
set_option linter.unusedSimpArgs false
def letB (c : UInt8) : Bool := (decide (97 ≤ c.toNat) && decide (c.toNat ≤ 122)) || (decide (65 ≤ c.toNat) && decide (c.toNat ≤ 90)) || decide (c.toNat = 95)
def digB (c : UInt8) : Bool := decide (48 ≤ c.toNat) && decide (c.toNat ≤ 57)
def ldB (c : UInt8) : Bool := letB c || digB c
def blkB (c : UInt8) : Bool := decide (c.toNat = 32) || decide (c.toNat = 9) || decide (c.toNat = 13) || decide (c.toNat = 10) || decide (c.toNat = 44)
def lineB (c : UInt8) : Bool := !decide (c.toNat = 10)
def signB (c : UInt8) : Bool := decide (c.toNat ∈ [33, 36, 40, 41, 58, 61, 64, 91, 93, 123, 124, 125, 38])
def runL (f : UInt8 → Bool) : List UInt8 → Nat
 | [] => 0
 | c :: l => if f c then runL f l + 1 else 0
theorem runL_le (f : UInt8 → Bool) : ∀ l, runL f l ≤ l.length
 | [] => Nat.le_refl _
 | c :: l => by unfold runL; split <;> simp only [List.length_cons] <;> have := runL_le f l <;> omega
def decStep (a : Nat) (c : UInt8) : Nat := a * 10 + (c.toNat - 48)
def decV (a : Nat) (l : List UInt8) : Nat := List.foldl decStep a l
inductive One where
 | ok (kind : Nat) (text : List UInt8) (n : Int) (len : Nat)
 | bad (off e : Nat)
def numFrom (l : List UInt8) : Nat := if l.head?.map (·.toNat) = some 45 then 1 else 0
def numP (l : List UInt8) : One :=
 let from_ := numFrom l
 let n := from_ + runL digB (l.drop from_)
 if n = from_ then .bad n 4
 else if (l.getD from_ 0).toNat = 48 ∧ from_ + 1 < n then .bad (from_ + 1) 4
 else if n < l.length ∧ (letB (l.getD n 0) = true ∨ (l.getD n 0).toNat = 46) then .bad n 4
 else if 18 < n - from_ then .bad 0 1
 else .ok 2 (l.take n) ((if from_ = 1 then -1 else 1) * (decV 0 ((l.drop from_).take (n - from_)) : Int)) n
def txtP : List UInt8 → Nat → List UInt8 → One
 | acc, k, [] => .bad k 4
 | acc, k, c :: l =>
  if c.toNat = 34 then (if 200 < acc.length then .bad 0 2 else .ok 3 acc 0 (k + 1))
  else if c.toNat = 10 then .bad k 4
  else if c.toNat = 92 then
   match l with
   | [] => .bad (k + 1) 4
   | d :: l' =>
    if d.toNat = 34 ∨ d.toNat = 92 ∨ d.toNat = 47 then txtP (acc ++ [d]) (k + 2) l'
    else if d.toNat = 110 then txtP (acc ++ [10]) (k + 2) l'
    else if d.toNat = 116 then txtP (acc ++ [9]) (k + 2) l'
    else .bad (k + 1) 4
  else txtP (acc ++ [c]) (k + 1) l
def dotsB (l : List UInt8) : Bool := decide ((l.take 3).map (·.toNat) = [46, 46, 46])
def oneP : List UInt8 → One
 | [] => .bad 0 4
 | c :: l =>
  if letB c then (if 32 < runL ldB (c :: l) then .bad 0 2 else .ok 1 ((c :: l).take (runL ldB (c :: l))) 0 (runL ldB (c :: l)))
  else if c.toNat = 45 ∨ digB c = true then numP (c :: l)
  else if c.toNat = 34 then txtP [] 1 l
  else if dotsB (c :: l) then .ok 4 [46, 46, 46] 0 3
  else if signB c then .ok 4 [c] 0 1
  else .bad 0 4
structure Tok where
 kind : Nat
 text : List UInt8
 n : Int
 at_ : Nat
inductive Out where
 | ok (ts : List Tok)
 | bad (at_ e : Nat)
def Out.cons (t : Tok) : Out → Out
 | .ok ts => .ok (t :: ts)
 | .bad a e => .bad a e
def toksF : Nat → Nat → List UInt8 → Out
 | 0, at_, _ => .bad at_ 4
 | f + 1, at_, [] => .ok [⟨0, [], 0, at_⟩]
 | f + 1, at_, c :: l =>
  if blkB c then toksF f (at_ + 1) l
  else if c.toNat = 35 then toksF f (at_ + 1 + runL lineB l) (l.drop (runL lineB l))
  else match oneP (c :: l) with
   | .bad off e => .bad (at_ + off) e
   | .ok k t n len => (toksF f (at_ + len) ((c :: l).drop len)).cons ⟨k, t, n, at_⟩
def toksA (at_ : Nat) (l : List UInt8) : Out := toksF (l.length + 1) at_ l
def toks (s : List UInt8) : Out := if 2000 < s.length then .bad 0 2 else toksA 0 s
theorem runL_pos {f : UInt8 → Bool} {c : UInt8} {l : List UInt8} (h : f c = true) : 1 ≤ runL f (c :: l) := by unfold runL; rw [if_pos h]; omega
theorem txtP_len : ∀ (l : List UInt8) (acc : List UInt8) (k : Nat) {kd : Nat} {t : List UInt8} {n : Int} {len : Nat}, txtP acc k l = .ok kd t n len → k + 1 ≤ len ∧ len ≤ k + l.length ∧ kd = 3 ∧ n = 0 ∧ t.length ≤ 200
 | [], acc, k, kd, t, n, len, h => by unfold txtP at h; cases h
 | c :: l, acc, k, kd, t, n, len, h => by
  unfold txtP at h
  split at h
  ·split at h
   ·cases h
   ·injection h with h1 h2 h3 h4
    subst h1; subst h2; subst h3; subst h4; refine ⟨Nat.le_refl _, by simp, rfl, rfl, by omega⟩
  ·split at h
   ·cases h
   ·split at h
    ·cases l with
     | nil => simp at h
     | cons d l' =>
      simp only at h; have ih := fun x => txtP_len l' (acc ++ [x]) (k + 2) (kd := kd) (t := t) (n := n) (len := len)
      simp only [List.length_cons]
      split at h
      ·have := ih _ h; omega
      ·split at h
       ·have := ih _ h; omega
       ·split at h
        ·have := ih _ h; omega
        ·cases h
    ·have := txtP_len l (acc ++ [c]) (k + 1) h; simp only [List.length_cons]; omega
theorem numP_len {l : List UInt8} {kd : Nat} {t : List UInt8} {n : Int} {len : Nat} (h : numP l = .ok kd t n len) (hl : l ≠ []) : 1 ≤ len ∧ len ≤ l.length ∧ kd = 2 ∧ t = l.take len := by
 unfold numP at h; simp only at h
 split at h
 ·cases h
 ·split at h
  ·cases h
  ·split at h
   ·cases h
   ·split at h
    ·cases h
    ·injection h with h1 h2 h3 h4
     have := runL_le digB (l.drop (numFrom l)); rw [List.length_drop] at this; have h1' : numFrom l ≤ 1 := by unfold numFrom; split <;> omega
     have h2' : 1 ≤ l.length := by cases l with | nil => exact absurd rfl hl | cons => simp
     refine ⟨by omega, by omega, h1.symm, ?_⟩
     rw [← h2, h4]
theorem oneP_len {l : List UInt8} {kd : Nat} {t : List UInt8} {n : Int} {len : Nat} (h : oneP l = .ok kd t n len) : 1 ≤ len ∧ len ≤ l.length := by
 cases l with
 | nil => simp [oneP] at h
 | cons c l =>
  simp only [oneP] at h
  split at h
  ·rename_i hc
   split at h
   ·cases h
   ·injection h with h1 h2 h3 h4
    rw [← h4]; exact ⟨runL_pos (by unfold ldB; rw [hc]; rfl), runL_le _ _⟩
  ·split at h
   ·have := numP_len h (by simp); exact ⟨this.1, this.2.1⟩
   ·split at h
    ·have := txtP_len l [] 1 h; simp only [List.length_cons]; omega
    ·split at h
     ·rename_i hd
      injection h with h1 h2 h3 h4
      rw [← h4]; refine ⟨by decide, ?_⟩
      unfold dotsB at hd; have := congrArg List.length (of_decide_eq_true hd); simp at this ⊢; omega
     ·split at h
      ·injection h with h1 h2 h3 h4; rw [← h4]; exact ⟨Nat.le_refl _, by simp⟩
      ·cases h
theorem toksF_more : ∀ (f g at_ : Nat) (l : List UInt8), l.length < f → l.length < g → toksF f at_ l = toksF g at_ l
 | 0, _, _, _, h, _ => absurd h (by omega)
 | _ + 1, 0, _, _, _, h => absurd h (by omega)
 | f + 1, g + 1, at_, [], _, _ => rfl
 | f + 1, g + 1, at_, c :: l, h1, h2 => by
  simp only [List.length_cons] at h1 h2; simp only [toksF]
  by_cases hb : blkB c = true
  ·rw [if_pos hb, if_pos hb]; exact toksF_more f g _ _ (by omega) (by omega)
  rw [if_neg hb, if_neg hb]
  by_cases hr : c.toNat = 35
  ·rw [if_pos hr, if_pos hr]; exact toksF_more f g _ _ (by rw [List.length_drop]; omega) (by rw [List.length_drop]; omega)
  rw [if_neg hr, if_neg hr]
  cases ho : oneP (c :: l) with
  | bad off e => rfl
  | ok k t n len =>
   have := oneP_len ho; simp only; rw [toksF_more f g _ _ (by rw [List.length_drop, List.length_cons]; omega) (by rw [List.length_drop, List.length_cons]; omega)]
theorem toksA_nil (at_ : Nat) : toksA at_ [] = .ok [⟨0, [], 0, at_⟩] := rfl
theorem toksA_blk (at_ : Nat) {c : UInt8} {l : List UInt8} (h : blkB c = true) : toksA at_ (c :: l) = toksA (at_ + 1) l := by
 unfold toksA
 show toksF (l.length + 1 + 1) at_ (c :: l) = _
 rw [toksF, if_pos h]
theorem toksA_rem (at_ : Nat) {c : UInt8} {l : List UInt8} (h : c.toNat = 35) : toksA at_ (c :: l) = toksA (at_ + 1 + runL lineB l) (l.drop (runL lineB l)) := by
 have hb : blkB c = false := by unfold blkB; rw [h]; rfl
 unfold toksA
 show toksF (l.length + 1 + 1) at_ (c :: l) = _
 rw [toksF]; rw [if_neg (by rw [hb]; decide), if_pos h]; exact toksF_more _ _ _ _ (by rw [List.length_drop]; omega) (by omega)
theorem toksA_bad (at_ : Nat) {c : UInt8} {l : List UInt8} {off e : Nat} (hb : blkB c = false) (hr : c.toNat ≠ 35) (h : oneP (c :: l) = .bad off e) : toksA at_ (c :: l) = .bad (at_ + off) e := by
 unfold toksA
 show toksF (l.length + 1 + 1) at_ (c :: l) = _
 rw [toksF]; rw [if_neg (by rw [hb]; decide), if_neg hr, h]
theorem toksA_one (at_ : Nat) {c : UInt8} {l : List UInt8} {k : Nat} {t : List UInt8} {n : Int} {len : Nat} (hb : blkB c = false) (hr : c.toNat ≠ 35) (h : oneP (c :: l) = .ok k t n len) : toksA at_ (c :: l) = (toksA (at_ + len) ((c :: l).drop len)).cons ⟨k, t, n, at_⟩ := by
 have hl := oneP_len h; unfold toksA
 show toksF (l.length + 1 + 1) at_ (c :: l) = _
 rw [toksF]; rw [if_neg (by rw [hb]; decide), if_neg hr, h]; simp only; rw [toksF_more _ (((c :: l).drop len).length + 1) _ _ (by rw [List.length_drop, List.length_cons]; omega) (by omega)]
def Out.app (ts : List Tok) : Out → Out
 | .ok us => .ok (ts ++ us)
 | .bad a e => .bad a e
theorem Out.app_nil (o : Out) : o.app [] = o := by cases o <;> rfl
theorem Out.app_cons (ts : List Tok) (t : Tok) (o : Out) : (o.cons t).app ts = o.app (ts ++ [t]) := by
 cases o <;> simp [Out.cons, Out.app]
theorem runL_all {f : UInt8 → Bool} : ∀ (l : List UInt8) (j : Nat) (hj : j < l.length), j < runL f l → f l[j] = true
 | [], j, hj, _ => absurd hj (by simp)
 | c :: l, j, hj, h => by
  unfold runL at h
  split at h
  ·rename_i hc
   cases j with
   | zero => exact hc
   | succ j => simp only [List.getElem_cons_succ]; exact runL_all l j (by simpa using hj) (by omega)
  ·omega
theorem runL_stop {f : UInt8 → Bool} : ∀ (l : List UInt8) (h : runL f l < l.length), f l[runL f l] = false
 | [], h => absurd h (by simp)
 | c :: l, h => by
  by_cases hc : f c = true
  ·have e : runL f (c :: l) = runL f l + 1 := by rw [runL, if_pos hc]
   have h' : runL f l < l.length := by rw [e] at h; simpa using h
   have := runL_stop l h'; simp only [e, List.getElem_cons_succ]; exact this
  ·have e : runL f (c :: l) = 0 := by rw [runL, if_neg hc]
   simp only [e, List.getElem_cons_zero]; simpa using hc
theorem runL_take_all {f : UInt8 → Bool} (l : List UInt8) : ∀ x ∈ l.take (runL f l), f x = true := by
 intro x hx; obtain ⟨i, hi, rfl⟩ := List.mem_iff_getElem.1 hx; rw [List.length_take] at hi; rw [List.getElem_take]; exact runL_all l i (by omega) (by omega)
theorem decStep_eq (a : Nat) (c : UInt8) : decStep a c = a * 10 + (c.toNat - 48) := by unfold decStep; rfl
theorem decV_nil (a : Nat) : decV a [] = a := by unfold decV; exact List.foldl_nil
theorem decV_cons (a : Nat) (c : UInt8) (l : List UInt8) : decV a (c :: l) = decV (a * 10 + (c.toNat - 48)) l := by
 unfold decV; rw [List.foldl_cons, decStep_eq]
theorem decV_snoc (a : Nat) (l : List UInt8) (c : UInt8) : decV a (l ++ [c]) = decV a l * 10 + (c.toNat - 48) := by
 unfold decV; rw [List.foldl_append, List.foldl_cons, List.foldl_nil, decStep_eq]
theorem dig_bd {c : UInt8} (h : digB c = true) : 48 ≤ c.toNat ∧ c.toNat ≤ 57 := by
 unfold digB at h; simpa using h
theorem decV_lt : ∀ (l : List UInt8) (a k : Nat), (∀ x ∈ l, digB x = true) → a < 10 ^ k → decV a l < 10 ^ (l.length + k)
 | [], a, k, _, ha => by rw [List.length_nil, Nat.zero_add, decV_nil]; exact ha
 | c :: l, a, k, h, ha => by
  rw [decV_cons]; have hc := dig_bd (h c (by simp)); have := decV_lt l (a * 10 + (c.toNat - 48)) (k + 1) (fun x hx => h x (by simp [hx])) (by rw [Nat.pow_succ]; omega); rw [List.length_cons]; rw [show l.length + 1 + k = l.length + (k + 1) from by omega]; exact this
theorem numFrom_le (l : List UInt8) : numFrom l ≤ 1 := by unfold numFrom; split <;> omega
theorem numP_ok {l : List UInt8} {kd : Nat} {t : List UInt8} {n : Int} {len : Nat} (h : numP l = .ok kd t n len) : ∃ D, 1 ≤ D ∧ D ≤ 18 ∧ len = numFrom l + D ∧ kd = 2 ∧ t = l.take len ∧ runL digB (l.drop (numFrom l)) = D ∧
  n = (if numFrom l = 1 then -1 else 1) * (decV 0 ((l.drop (numFrom l)).take D) : Int) ∧ ¬ ((l.getD (numFrom l) 0).toNat = 48 ∧ 1 < D) ∧ ¬ (len < l.length ∧ (letB (l.getD len 0) = true ∨ (l.getD len 0).toNat = 46)) := by
 unfold numP at h; simp only at h
 split at h
 ·cases h
 ·split at h
  ·cases h
  ·split at h
   ·cases h
   ·split at h
    ·cases h
    ·rename_i h1 h2 h3 h4
     injection h with e1 e2 e3 e4
     refine ⟨runL digB (l.drop (numFrom l)), by omega, by omega, e4.symm, e1.symm, by rw [← e2, e4], rfl, ?_, fun h => h2 ⟨h.1, by omega⟩, by rw [← e4]; exact h3⟩
     rw [← e3, Nat.add_sub_cancel_left]
theorem toks_ind {P : Nat → List UInt8 → Prop} (h0 : ∀ a, P a [])
  (hb : ∀ a c l, blkB c = true → P (a + 1) l → P a (c :: l))
  (hr : ∀ a c l, c.toNat = 35 → P (a + 1 + runL lineB l) (l.drop (runL lineB l)) → P a (c :: l))
  (hx : ∀ a c l off e, blkB c = false → c.toNat ≠ 35 → oneP (c :: l) = .bad off e → P a (c :: l))
  (ho : ∀ a c l k t n len, blkB c = false → c.toNat ≠ 35 → oneP (c :: l) = .ok k t n len → P (a + len) ((c :: l).drop len) → P a (c :: l)) :
  ∀ (m : Nat) (a : Nat) (l : List UInt8), l.length ≤ m → P a l
 | _, a, [], _ => h0 a
 | 0, _, _ :: _, h => by simp at h
 | m + 1, a, c :: l, h => by
  simp only [List.length_cons] at h
  by_cases h1 : blkB c = true
  ·exact hb a c l h1 (toks_ind h0 hb hr hx ho m _ _ (by omega))
  by_cases h2 : c.toNat = 35
  ·exact hr a c l h2 (toks_ind h0 hb hr hx ho m _ _ (by rw [List.length_drop]; omega))
  cases h3 : oneP (c :: l) with
  | bad off e => exact hx a c l off e (by simpa using h1) h2 h3
  | ok k t n len =>
   have := oneP_len h3; exact ho a c l k t n len (by simpa using h1) h2 h3 (toks_ind h0 hb hr hx ho m _ _ (by rw [List.length_drop, List.length_cons]; omega))
theorem toksA_ind {P : Nat → List UInt8 → Prop} (h0 : ∀ a, P a [])
  (hb : ∀ a c l, blkB c = true → P (a + 1) l → P a (c :: l))
  (hr : ∀ a c l, c.toNat = 35 → P (a + 1 + runL lineB l) (l.drop (runL lineB l)) → P a (c :: l))
  (hx : ∀ a c l off e, blkB c = false → c.toNat ≠ 35 → oneP (c :: l) = .bad off e → P a (c :: l))
  (ho : ∀ a c l k t n len, blkB c = false → c.toNat ≠ 35 → oneP (c :: l) = .ok k t n len → P (a + len) ((c :: l).drop len) → P a (c :: l)) (a : Nat) (l : List UInt8) : P a l :=
 toks_ind h0 hb hr hx ho l.length a l (Nat.le_refl _)
theorem Out.cons_ok {t : Tok} {o : Out} {ts : List Tok} (h : o.cons t = .ok ts) : ∃ us, o = .ok us ∧ ts = t :: us := by
 cases o with
 | ok us => injection h with h; exact ⟨us, rfl, h.symm⟩
 | bad a e => cases h
theorem Out.cons_bad {t : Tok} {o : Out} {a e : Nat} (h : o.cons t = .bad a e) : o = .bad a e := by
 cases o with
 | ok us => cases h
 | bad a' e' => exact h
theorem toks_ok {s : List UInt8} {ts : List Tok} (h : toks s = .ok ts) : s.length ≤ 2000 ∧ toksA 0 s = .ok ts := by
 unfold toks at h
 split at h
 ·cases h
 ·exact ⟨by omega, h⟩
theorem oneP_cons (c : UInt8) (l : List UInt8) : oneP (c :: l) =
  if letB c then (if 32 < runL ldB (c :: l) then .bad 0 2 else .ok 1 ((c :: l).take (runL ldB (c :: l))) 0 (runL ldB (c :: l)))
  else if c.toNat = 45 ∨ digB c = true then numP (c :: l)
  else if c.toNat = 34 then txtP [] 1 l
  else if dotsB (c :: l) then .ok 4 [46, 46, 46] 0 3
  else if signB c then .ok 4 [c] 0 1
  else .bad 0 4 := rfl
def Tok.upp (n : Nat) (t : Tok) : Tok := ⟨t.kind, t.text, t.n, t.at_ + n⟩
def Out.up (n : Nat) : Out → Out
 | .ok ts => .ok (ts.map (Tok.upp n))
 | .bad a e => .bad (a + n) e
theorem numP_take {l : List UInt8} {kd : Nat} {t : List UInt8} {n : Int} {len : Nat} (h : numP l = .ok kd t n len) : kd = 2 ∧ t = l.take len := by
 obtain ⟨D, _, _, _, h1, h2, _⟩ := numP_ok h; exact ⟨h1, h2⟩
structure Stand (a : Nat) (l : List UInt8) (ts : List Tok) : Prop where
 one : 0 < ts.length
 kinds : ∀ i (h : i < ts.length), (ts[i].kind = 0 ↔ i = ts.length - 1) ∧ ts[i].kind ≤ 4
 rise : ∀ i (h : i + 1 < ts.length), ts[i].at_ < ts[i + 1].at_
 there : ∀ i (h : i < ts.length), a ≤ ts[i].at_ ∧ ts[i].at_ ≤ a + l.length ∧ (ts[i].kind ≠ 3 → ts[i].kind ≠ 0 → (l.drop (ts[i].at_ - a)).take ts[i].text.length = ts[i].text)
 last : ∀ h : ts.length - 1 < ts.length, ts[ts.length - 1].at_ = a + l.length
theorem Stand.far {a b : Nat} {l m : List UInt8} {ts : List Tok} (h : Stand b m ts) (hb : a ≤ b) (hl : m = l.drop (b - a)) (hbl : b - a ≤ l.length) : Stand a l ts := by
 have hm : m.length = l.length - (b - a) := by rw [hl, List.length_drop]
 refine ⟨h.one, h.kinds, h.rise, fun i hi => ?_, fun hi => by rw [h.last hi, hm]; omega⟩
 obtain ⟨h1, h2, h3⟩ := h.there i hi; refine ⟨by omega, by omega, fun k1 k2 => ?_⟩
 have := h3 k1 k2; rw [hl, List.drop_drop] at this; rw [show ts[i].at_ - a = b - a + (ts[i].at_ - b) from by omega]; exact this
def likeT (t u : Tok) : Prop := t.kind = u.kind ∧ t.text = u.text ∧ t.n = u.n
def LikeT : List Tok → List Tok → Prop
 | [], [] => True
 | t :: ts, u :: us => likeT t u ∧ LikeT ts us
 | _, _ => False
theorem LikeT.len : ∀ {ts us : List Tok}, LikeT ts us → us.length = ts.length
 | [], [], _ => rfl
 | t :: ts, u :: us, h => by simp only [List.length_cons]; rw [LikeT.len h.2]
theorem LikeT.get : ∀ {ts us : List Tok}, LikeT ts us → ∀ i (h1 : i < ts.length) (h2 : i < us.length), likeT ts[i] us[i]
 | [], [], _, i, h1, _ => absurd h1 (by simp)
 | t :: ts, u :: us, h, 0, _, _ => h.1
 | t :: ts, u :: us, h, i + 1, h1, h2 => LikeT.get h.2 i (by simpa using h1) (by simpa using h2)
end Go.Proofs.YtnkpoddbbdmipaaGreatDoor
