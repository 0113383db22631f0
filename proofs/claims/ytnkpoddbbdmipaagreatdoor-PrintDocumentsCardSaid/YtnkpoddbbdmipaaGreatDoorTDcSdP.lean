/- . -/
import Derived.Test.YtnkpoddbbdmipaaGreatDoorTDcTkA
namespace Go.Proofs.YtnkpoddbbdmipaaGreatDoor
set_option linter.unusedVariables false
set_option linter.unusedSimpArgs false
theorem runL_full {f : UInt8 → Bool} : ∀ (l : List UInt8), (∀ x ∈ l, f x = true) → runL f l = l.length
 | [], _ => rfl
 | c :: l, h => by rw [runL, if_pos (h c (by simp)), runL_full l (fun x hx => h x (by simp [hx]))]; rfl
theorem runL_cut {f : UInt8 → Bool} : ∀ (l r : List UInt8), (runL f l < l.length ∨ ∀ hr : 0 < r.length, f r[0] = false) → runL f (l ++ r) = runL f l
 | [], r, h => by
  rcases h with h | h
  ·simp at h
  ·cases r with
   | nil => rfl
   | cons c r =>
    have := h (by simp); have this : f c = false := this
    show runL f (c :: r) = 0
    simp [runL, this]
 | c :: l, r, h => by
  rw [List.cons_append, runL, runL]
  split
  ·rename_i hc
   rw [runL_cut l r ?_]
   rcases h with h | h
   ·rw [runL, if_pos hc] at h; left; simpa using h
   ·exact .inr h
  ·rfl
theorem pow18 (k : Nat) (hk : k ≤ 18) : 10 ^ k ≤ 10 ^ 18 := Nat.pow_le_pow_right (by decide) hk
theorem toks_short {s : List UInt8} (h : s.length ≤ 2000) : toks s = toksA 0 s := by unfold toks; rw [if_neg (by omega)]
theorem numP_eq {l : List UInt8} {f r : Nat} (hf : numFrom l = f) (hr : runL digB (l.drop f) = r) : numP l =
  if f + r = f then .bad (f + r) 4
  else if (l.getD f 0).toNat = 48 ∧ f + 1 < f + r then .bad (f + 1) 4
  else if f + r < l.length ∧ (letB (l.getD (f + r) 0) = true ∨ (l.getD (f + r) 0).toNat = 46) then .bad (f + r) 4
  else if 18 < r then .bad 0 1
  else .ok 2 (l.take (f + r)) ((if f = 1 then -1 else 1) * (decV 0 ((l.drop f).take r) : Int)) (f + r) := by
 subst hf; subst hr; unfold numP; simp only [Nat.add_sub_cancel_left]
theorem txtP_qq (acc : List UInt8) (k : Nat) {c : UInt8} (l : List UInt8) (h : c.toNat = 34) : txtP acc k (c :: l) = if 200 < acc.length then .bad 0 2 else .ok 3 acc 0 (k + 1) := by rw [txtP.eq_def]; simp only; rw [if_pos h]
def escY (d : UInt8) : Option UInt8 := if d.toNat = 34 ∨ d.toNat = 92 ∨ d.toNat = 47 then some d else if d.toNat = 110 then some 10 else if d.toNat = 116 then some 9 else none
theorem txtP_ee (acc : List UInt8) (k : Nat) {c : UInt8} (d : UInt8) (l : List UInt8) (h : c.toNat = 92) : txtP acc k (c :: d :: l) = match escY d with | some x => txtP (acc ++ [x]) (k + 2) l | none => .bad (k + 1) 4 := by
 rw [txtP.eq_def]; simp only; rw [if_neg (by omega), if_neg (by omega), if_pos h]; unfold escY
 split
 ·rfl
 ·split
  ·rfl
  ·split <;> rfl
theorem txtP_oo (acc : List UInt8) (k : Nat) {c : UInt8} (l : List UInt8) (h1 : c.toNat ≠ 34) (h2 : c.toNat ≠ 10) (h3 : c.toNat ≠ 92) : txtP acc k (c :: l) = txtP (acc ++ [c]) (k + 1) l := by rw [txtP.eq_def]; simp only; rw [if_neg h1, if_neg h2, if_neg h3]
theorem getD_left (l r : List UInt8) (i : Nat) (h : i < l.length) : (l ++ r).getD i 0 = l.getD i 0 := by
 rw [List.getD_eq_getElem?_getD, List.getD_eq_getElem?_getD, List.getElem?_append_left h]
theorem ldB_no {g : UInt8} (h : ldB g = false) : letB g = false ∧ digB g = false := by unfold ldB at h; simpa using h
theorem dots_first {c : UInt8} (l : List UInt8) (h : c.toNat ≠ 46) : dotsB (c :: l) = false := by
 unfold dotsB
 apply decide_eq_false
 intro e; simp at e; exact h e.1
theorem u8_of {c : UInt8} {n : Nat} (hn : n < 256) (h : c.toNat = n) : c = UInt8.ofNat n := by
 apply UInt8.toNat_inj.1; rw [h]; simp; omega
structure NumI (K k : Nat) (l : List UInt8) : Prop where
 digs : ∀ x ∈ l, digB x = true
 val : decV k l = K
 first : k = 0 → l = [] ∨ (l = [48] ∧ K = 0) ∨ ∃ c r, l = c :: r ∧ c.toNat ≠ 48
 len : l.length ≤ 18
theorem decV_ge : ∀ (l : List UInt8) (a : Nat), a * 10 ^ l.length ≤ decV a l
 | [], a => by rw [decV_nil]; simp
 | c :: l, a => by
  rw [decV_cons, List.length_cons, Nat.pow_succ]; have := decV_ge l (a * 10 + (c.toNat - 48)); have h2 : (a * 10) * 10 ^ l.length ≤ (a * 10 + (c.toNat - 48)) * 10 ^ l.length := Nat.mul_le_mul (by omega) (Nat.le_refl _); have e : a * (10 ^ l.length * 10) = a * 10 * 10 ^ l.length := by rw [Nat.mul_comm (10 ^ l.length) 10, Nat.mul_assoc]
  omega
theorem NumI.start (K : Nat) : NumI K K [] := ⟨by simp, decV_nil K, fun _ => .inl rfl, by simp⟩
theorem dig_of (d : Nat) (h : d < 10) : digB (UInt8.ofNat (48 + d)) = true ∧ (UInt8.ofNat (48 + d)).toNat = 48 + d := by
 have e : (UInt8.ofNat (48 + d)).toNat = 48 + d := by simp; omega
 refine ⟨?_, e⟩
 unfold digB; rw [e]; simp; omega
theorem NumI.step {K k : Nat} {l : List UInt8} (h : NumI K k l) (hK : K < 1000000000000000000) (hg : 0 < k ∨ l = []) : NumI K (k / 10) (UInt8.ofNat (48 + k % 10) :: l) := by
 obtain ⟨d1, d2⟩ := dig_of (k % 10) (by omega); refine ⟨fun x hx => ?_, ?_, fun h0 => ?_, ?_⟩
 ·rcases List.mem_cons.1 hx with rfl | hx
  ·exact d1
  ·exact h.digs x hx
 ·rw [decV_cons, d2, show k / 10 * 10 + (48 + k % 10 - 48) = k from by omega]; exact h.val
 ·by_cases hk : k = 0
  ·have hl : l = [] := by rcases hg with h | h; exact absurd hk (by omega); exact h
   subst hl; subst hk; have := h.val; rw [decV_nil] at this; exact .inr (.inl ⟨rfl, this.symm⟩)
  ·exact .inr (.inr ⟨_, _, rfl, by rw [d2]; omega⟩)
 ·rw [List.length_cons]
  rcases hg with hg | hg
  ·have h1 := decV_ge l k; rw [h.val] at h1; have h2 : 1 * 10 ^ l.length ≤ k * 10 ^ l.length := Nat.mul_le_mul hg (Nat.le_refl _); have h3 : 10 ^ l.length < 10 ^ 18 := by
    have : 10 ^ 18 = 1000000000000000000 := by decide
    omega
   have := (Nat.pow_lt_pow_iff_right (a := 10) (by decide)).1 h3; omega
  ·subst hg; simp
theorem dig_nolet {c : UInt8} (h : digB c = true) : letB c = false := by
 have := dig_bd h; unfold letB; simp only [Bool.or_eq_false_iff, Bool.and_eq_false_iff, decide_eq_false_iff_not]; omega
theorem dig_misc {c : UInt8} (h : digB c = true) : blkB c = false ∧ c.toNat ≠ 35 ∧ c.toNat ≠ 45 := by
 have := dig_bd h; unfold blkB; simp only [Bool.or_eq_false_iff, decide_eq_false_iff_not]; omega
def sgn (neg : Bool) (l : List UInt8) : List UInt8 := if neg then 45 :: l else l
theorem numFrom_sgn {neg : Bool} {l x : List UInt8} (hd : ∀ c ∈ l, digB c = true) (hl : l ≠ []) : numFrom (sgn neg l ++ x) = if neg then 1 else 0 := by
 unfold sgn numFrom
 cases neg
 ·cases l with
  | nil => exact absurd rfl hl
  | cons c l =>
   have := (dig_misc (hd c (by simp))).2.2; simp [this]
 ·simp
theorem drop_sgn {neg : Bool} {l x : List UInt8} : (sgn neg l ++ x).drop (if neg then 1 else 0) = l ++ x := by
 unfold sgn; cases neg <;> simp
theorem len_sgn (neg : Bool) (l : List UInt8) : (sgn neg l).length = (if neg then 1 else 0) + l.length := by
 unfold sgn; cases neg
 ·simp
 ·simp; omega
theorem numP_sgn {neg : Bool} {l : List UInt8} (x : List UInt8) (hd : ∀ c ∈ l, digB c = true) (hl : l ≠ []) (h18 : l.length ≤ 18) (h0 : l = [48] ∨ ∃ c r, l = c :: r ∧ c.toNat ≠ 48) (hx : ∀ h : 0 < x.length, digB x[0] = false) :
  numP (sgn neg l ++ x) = if 0 < x.length ∧ (letB (x.getD 0 0) = true ∨ (x.getD 0 0).toNat = 46) then .bad (sgn neg l).length 4 else .ok 2 (sgn neg l) ((if neg then -1 else 1) * (decV 0 l : Int)) (sgn neg l).length := by
 obtain ⟨f, hf⟩ : ∃ f, (if neg then 1 else 0) = f := ⟨_, rfl⟩; have e1 : numFrom (sgn neg l ++ x) = f := by rw [numFrom_sgn hd hl, hf]
 have e2 : (sgn neg l ++ x).drop f = l ++ x := by rw [← hf]; exact drop_sgn
 have e3 : runL digB ((sgn neg l ++ x).drop f) = l.length := by
  rw [e2, runL_cut _ _ (.inr hx), runL_full _ hd]
 have hlen : (sgn neg l).length = f + l.length := by rw [len_sgn, hf]
 have hlp : 0 < l.length := by cases l with | nil => exact absurd rfl hl | cons => simp
 have hg : (sgn neg l ++ x).getD f 0 = l.getD 0 0 := by
  have : ((sgn neg l ++ x).drop f).getD 0 0 = (l ++ x).getD 0 0 := by rw [e2]
  rw [List.getD_eq_getElem?_getD, List.getElem?_drop, Nat.add_zero, ← List.getD_eq_getElem?_getD] at this; rw [this, getD_left _ _ _ hlp]
 have hg2 : (sgn neg l ++ x).getD (f + l.length) 0 = x.getD 0 0 := by
  rw [← hlen, List.getD_eq_getElem?_getD, List.getElem?_append_right (Nat.le_refl _), Nat.sub_self, ← List.getD_eq_getElem?_getD]
 rw [numP_eq e1 e3, if_neg (by omega), hg, hg2]; have hz : ¬ ((l.getD 0 0).toNat = 48 ∧ f + 1 < f + l.length) := by
  rintro ⟨h1, h2⟩
  rcases h0 with h0 | ⟨c, r, h0, hc⟩
  ·subst h0; simp at h2
  ·subst h0; exact hc h1
 rw [if_neg hz, List.length_append, hlen]
 by_cases hb : 0 < x.length ∧ (letB (x.getD 0 0) = true ∨ (x.getD 0 0).toNat = 46)
 ·rw [if_pos hb, if_pos ⟨by omega, hb.2⟩]
 ·rw [if_neg hb, if_neg (fun h => hb ⟨by omega, h.2⟩), if_neg (by omega), e2, ← hlen]
  congr 1
  ·rw [List.take_left]
  ·rw [List.take_left, ← hf]; cases neg <;> rfl
theorem oneP_sgn {neg : Bool} {l : List UInt8} (x : List UInt8) (hd : ∀ c ∈ l, digB c = true) (hl : l ≠ []) : oneP (sgn neg l ++ x) = numP (sgn neg l ++ x) ∧ ∃ c r, sgn neg l ++ x = c :: r ∧ blkB c = false ∧ c.toNat ≠ 35 := by
 cases neg
 ·cases l with
  | nil => exact absurd rfl hl
  | cons c l =>
   have hc := hd c (by simp); refine ⟨?_, c, l ++ x, rfl, (dig_misc hc).1, (dig_misc hc).2.1⟩
   show oneP (c :: (l ++ x)) = _
   rw [oneP_cons, if_neg (by rw [dig_nolet hc]; decide), if_pos (.inr hc)]; rfl
 ·refine ⟨?_, 45, l ++ x, rfl, by decide, by decide⟩
  show oneP (45 :: (l ++ x)) = _
  rw [oneP_cons, if_neg (by decide), if_pos (.inl (by decide))]; rfl
inductive VT where
 | mk (k : Nat) (n : Int) (s : List UInt8) (ks : List (List UInt8)) (vs : List VT)
def VT.zero : VT := .mk 0 0 [] [] []
inductive TR where
 | nm (s : List UInt8) (bang : Bool)
 | ls (t : TR) (bang : Bool)
structure AR where
 name : List UInt8
 v : VT
structure DR where
 name : List UInt8
 args : List AR
inductive SL where
 | mk (kind : Nat) (al name on_ : List UInt8) (args : List AR) (dirs : List DR) (sub : List SL)
structure VD where
 name : List UInt8
 t : TR
 has : Bool
 v : VT
structure OP where
 mut_ : Bool
 name : List UInt8
 vars : List VD
 sub : List SL
structure FR where
 name : List UInt8
 on_ : List UInt8
 sub : List SL
structure DC where
 ops : List OP
 frags : List FR
inductive PR (α : Type) where
 | ok (x : α) (r : List Tok)
 | bad (a e : Nat)
def PR.bind {α β : Type} (p : PR α) (f : α → List Tok → PR β) : PR β := match p with | .ok x r => f x r | .bad a e => .bad a e
def atT (r : List Tok) : Nat := match r with | [] => 0 | t :: _ => t.at_
def isK (k : Nat) (r : List Tok) : Bool := match r with | [] => false | t :: _ => decide (t.kind = k)
def isS (s : List UInt8) (r : List Tok) : Bool := match r with | [] => false | t :: _ => decide (t.kind = 4) && decide (t.text = s)
def isW (s : List UInt8) (r : List Tok) : Bool := match r with | [] => false | t :: _ => decide (t.kind = 1) && decide (t.text = s)
def isT (s : List UInt8) (r : List Tok) : Bool := isS s r || isW s r
def wantP (s : List UInt8) (r : List Tok) : PR Unit := if isT s r then .ok () r.tail else .bad (atT r) 4
def nameP (r : List Tok) : PR (List UInt8) := match r with | [] => .bad 0 4 | t :: r' => if t.kind = 1 then .ok t.text r' else .bad t.at_ 4
def manyP {α : Type} (f : List Tok → PR α) (close : List UInt8) : Nat → List α → List Tok → PR (List α)
 | 0, _, r => .bad (atT r) 4
 | n + 1, acc, r => (f r).bind fun x r1 => if isT close r1 then .ok (acc ++ [x]) r1.tail else manyP f close n (acc ++ [x]) r1
def anyP {α : Type} (f : List Tok → PR α) (close : List UInt8) : Nat → List α → List Tok → PR (List α)
 | 0, _, r => .bad (atT r) 4
 | n + 1, acc, r => if isT close r then .ok acc r.tail else (f r).bind fun x r1 => anyP f close n (acc ++ [x]) r1
def pairP (f : List Tok → PR VT) (r : List Tok) : PR (List UInt8 × VT) := (nameP r).bind fun s r1 => (wantP [58] r1).bind fun _ r2 => (f r2).bind fun v r3 => .ok (s, v) r3
def wTrue : List UInt8 := [116, 114, 117, 101]
def wFalse : List UInt8 := [102, 97, 108, 115, 101]
def wNull : List UInt8 := [110, 117, 108, 108]
def valueB (fixed : Bool) (f : List Tok → PR VT) : List Tok → PR VT
 | [] => .bad 0 4
 | t :: r =>
  if t.kind = 2 then .ok (.mk 1 t.n [] [] []) r
  else if t.kind = 3 then .ok (.mk 2 0 t.text [] []) r
  else if isT wTrue (t :: r) then .ok (.mk 3 1 [] [] []) r
  else if isT wFalse (t :: r) then .ok (.mk 3 0 [] [] []) r
  else if isT wNull (t :: r) then .ok VT.zero r
  else if t.kind = 1 then .ok (.mk 4 0 t.text [] []) r
  else if !fixed && isT [36] (t :: r) then (nameP r).bind fun s r1 => .ok (.mk 7 0 s [] []) r1
  else if isT [91] (t :: r) then (anyP f [93] (r.length + 1) [] r).bind fun vs r1 => .ok (.mk 5 0 [] [] vs) r1
  else if isT [123] (t :: r) then (anyP (pairP f) [125] (r.length + 1) [] r).bind fun ps r1 => .ok (.mk 6 0 [] (ps.map (·.1)) (ps.map (·.2))) r1
  else .bad t.at_ 4
def valueP (fixed : Bool) : Nat → List Tok → PR VT
 | 0, r => .bad (atT r) 5
 | d + 1, r => valueB fixed (valueP fixed d) r
def bangP (mk : Bool → TR) (r : List Tok) : PR TR := if isT [33] r then .ok (mk true) r.tail else .ok (mk false) r
def typP : Nat → List Tok → PR TR
 | 0, r => .bad (atT r) 5
 | d + 1, r => if isT [91] r then (typP d r.tail).bind fun t r1 => (wantP [93] r1).bind fun _ r2 => bangP (.ls t) r2 else (nameP r).bind fun s r1 => bangP (.nm s) r1
theorem bind_inv {α β : Type} {p : PR α} {f : α → List Tok → PR β} {y : β} {r : List Tok} (h : p.bind f = .ok y r) : ∃ x r1, p = .ok x r1 ∧ f x r1 = .ok y r := by
 cases p with
 | ok x r1 => exact ⟨x, r1, rfl, h⟩
 | bad a e => cases h
theorem isT_cons {s : List UInt8} {r : List Tok} (h : isT s r = true) : ∃ t r', r = t :: r' := by
 cases r with
 | nil => simp [isT, isS, isW] at h
 | cons t r' => exact ⟨t, r', rfl⟩
theorem isT_len {s : List UInt8} {r : List Tok} (h : isT s r = true) : r.tail.length < r.length := by
 obtain ⟨t, r', rfl⟩ := isT_cons h; simp
theorem nameP_len {r : List Tok} {s : List UInt8} {r1 : List Tok} (h : nameP r = .ok s r1) : r1.length < r.length := by
 cases r with
 | nil => cases h
 | cons t r' =>
  have h : (if t.kind = 1 then PR.ok t.text r' else PR.bad t.at_ 4) = .ok s r1 := h
  split at h
  ·injection h with _ h; subst h; simp
  ·cases h
theorem wantP_len {s : List UInt8} {r r1 : List Tok} {u : Unit} (h : wantP s r = .ok u r1) : r1.length < r.length := by
 unfold wantP at h
 split at h
 ·rename_i hs
  injection h with _ h; subst h; exact isT_len hs
 ·cases h
def Takes {α : Type} (f : List Tok → PR α) : Prop := ∀ r x r1, f r = .ok x r1 → r1.length < r.length
theorem anyP_len {α : Type} {f : List Tok → PR α} {close : List UInt8} (hf : Takes f) : ∀ (n : Nat) (acc : List α) (r : List Tok) (xs : List α) (r1 : List Tok), anyP f close n acc r = .ok xs r1 → r1.length < r.length
 | 0, _, _, _, _, h => by cases h
 | n + 1, acc, r, xs, r1, h => by
  rw [anyP] at h
  split at h
  ·rename_i hs
   injection h with _ h; subst h; exact isT_len hs
  ·obtain ⟨x, r2, h1, h2⟩ := bind_inv h; have := hf _ _ _ h1; have := anyP_len hf n _ _ _ _ h2; omega
theorem manyP_len {α : Type} {f : List Tok → PR α} {close : List UInt8} (hf : Takes f) : ∀ (n : Nat) (acc : List α) (r : List Tok) (xs : List α) (r1 : List Tok), manyP f close n acc r = .ok xs r1 → r1.length < r.length
 | 0, _, _, _, _, h => by cases h
 | n + 1, acc, r, xs, r1, h => by
  rw [manyP] at h; obtain ⟨x, r2, h1, h2⟩ := bind_inv h; have h3 := hf _ _ _ h1
  split at h2
  ·rename_i hs
   injection h2 with _ h2; subst h2
   have := isT_len hs; omega
  ·have := manyP_len hf n _ _ _ _ h2; omega
theorem pairP_takes {f : List Tok → PR VT} (hf : Takes f) : Takes (pairP f) := fun r x r1 h => by
 unfold pairP at h; obtain ⟨s, r2, h1, h2⟩ := bind_inv h; obtain ⟨u, r3, h3, h4⟩ := bind_inv h2; obtain ⟨v, r4, h5, h6⟩ := bind_inv h4
 injection h6 with _ h6; subst h6
 have := nameP_len h1; have := wantP_len h3; have := hf _ _ _ h5; omega
theorem valueB_takes {fixed : Bool} {f : List Tok → PR VT} (hf : Takes f) : Takes (valueB fixed f) := fun r x r1 h => by
 cases r with
 | nil => cases h
 | cons t r =>
  rw [show valueB fixed f (t :: r) = (if t.kind = 2 then .ok (.mk 1 t.n [] [] []) r
   else if t.kind = 3 then .ok (.mk 2 0 t.text [] []) r
   else if isT wTrue (t :: r) then .ok (.mk 3 1 [] [] []) r
   else if isT wFalse (t :: r) then .ok (.mk 3 0 [] [] []) r
   else if isT wNull (t :: r) then .ok VT.zero r
   else if t.kind = 1 then .ok (.mk 4 0 t.text [] []) r
   else if !fixed && isT [36] (t :: r) then (nameP r).bind fun s r1 => .ok (.mk 7 0 s [] []) r1
   else if isT [91] (t :: r) then (anyP f [93] (r.length + 1) [] r).bind fun vs r1 => .ok (.mk 5 0 [] [] vs) r1
   else if isT [123] (t :: r) then (anyP (pairP f) [125] (r.length + 1) [] r).bind fun ps r1 => .ok (.mk 6 0 [] (ps.map (·.1)) (ps.map (·.2))) r1
   else .bad t.at_ 4) from rfl] at h
  simp only [List.length_cons]
  repeat' split at h
  all_goals first
   | (injection h with _ h; subst h; omega)
   | (cases h; done)
   | (obtain ⟨s, r2, h1, h2⟩ := bind_inv h; injection h2 with _ h2; subst h2; first | (have := nameP_len h1; omega) | (have := anyP_len hf _ _ _ _ _ h1; omega) | (have := anyP_len (pairP_takes hf) _ _ _ _ _ h1; omega))
theorem valueP_takes (fixed : Bool) : ∀ d, Takes (valueP fixed d)
 | 0 => fun r x r1 h => by cases h
 | d + 1 => valueB_takes (valueP_takes fixed d)
theorem bangP_len {mk : Bool → TR} {r r1 : List Tok} {t : TR} (h : bangP mk r = .ok t r1) : r1.length ≤ r.length := by
 unfold bangP at h
 split at h
 ·injection h with _ h; subst h; simp
 ·injection h with _ h; subst h; exact Nat.le_refl _
theorem typP_takes : ∀ d, Takes (typP d)
 | 0 => fun r x r1 h => by cases h
 | d + 1 => fun r x r1 h => by
  rw [typP] at h
  split at h
  ·rename_i hs
   obtain ⟨t, r2, h1, h2⟩ := bind_inv h; obtain ⟨u, r3, h3, h4⟩ := bind_inv h2; have := isT_len hs; have := typP_takes d _ _ _ h1; have := wantP_len h3; have := bangP_len h4; omega
  ·obtain ⟨s, r2, h1, h2⟩ := bind_inv h; have := nameP_len h1; have := bangP_len h2; omega
theorem manyP_fuel {α : Type} {f : List Tok → PR α} (hf : Takes f) (close : List UInt8) : ∀ (n m : Nat) (acc : List α) (r : List Tok), r.length < n → r.length < m → manyP f close n acc r = manyP f close m acc r
 | 0, _, _, _, h, _ => by omega
 | _, 0, _, _, _, h => by omega
 | n + 1, m + 1, acc, r, h1, h2 => by
  rw [manyP, manyP]
  cases hq : f r with
  | bad a e => rfl
  | ok x r1 =>
   have := hf r x r1 hq
   show (if isT close r1 then PR.ok (acc ++ [x]) r1.tail else manyP f close n (acc ++ [x]) r1) = (if isT close r1 then PR.ok (acc ++ [x]) r1.tail else manyP f close m (acc ++ [x]) r1)
   rw [manyP_fuel hf close n m (acc ++ [x]) r1 (by omega) (by omega)]
theorem anyP_fuel {α : Type} {f : List Tok → PR α} (hf : Takes f) (close : List UInt8) : ∀ (n m : Nat) (acc : List α) (r : List Tok), r.length < n → r.length < m → anyP f close n acc r = anyP f close m acc r
 | 0, _, _, _, h, _ => by omega
 | _, 0, _, _, _, h => by omega
 | n + 1, m + 1, acc, r, h1, h2 => by
  rw [anyP, anyP]
  cases hq : f r with
  | bad a e => rfl
  | ok x r1 =>
   have := hf r x r1 hq
   show (if isT close r then PR.ok acc r.tail else anyP f close n (acc ++ [x]) r1) = (if isT close r then PR.ok acc r.tail else anyP f close m (acc ++ [x]) r1)
   rw [anyP_fuel hf close n m (acc ++ [x]) r1 (by omega) (by omega)]
structure IN where
 name : List UInt8
 t : TR
 has : Bool
 v : VT
structure FD where
 name : List UInt8
 args : List IN
 t : TR
 has : Bool
 v : VT
def FD.of (i : IN) : FD := ⟨i.name, [], i.t, i.has, i.v⟩
structure TD where
 kind : Nat
 name : List UInt8
 fields : List FD
 names : List (List UInt8)
end Go.Proofs.YtnkpoddbbdmipaaGreatDoor
