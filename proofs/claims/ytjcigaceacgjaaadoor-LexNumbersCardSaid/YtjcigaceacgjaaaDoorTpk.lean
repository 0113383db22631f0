/- Tokens, in plain Lean: where they stand in the text; the same tokens written anew; texts in quotes; numbers written out. -/
import Derived.Test.YtjcigaceacgjaaaDoorTpj
namespace Go.Proofs.YtjcigaceacgjaaaDoor
set_option linter.unusedVariables false
set_option linter.unusedSimpArgs false

/-! ### Tokens stand in the text -/
theorem numP_take {l : List UInt8} {kd : Nat} {t : List UInt8} {n : Int} {len : Nat} (h : numP l = .ok kd t n len) : kd = 2 ∧ t = l.take len := by
  obtain ⟨D, _, _, _, h1, h2, _⟩ := numP_ok h
  exact ⟨h1, h2⟩
theorem dots_take {l : List UInt8} (h : dotsB l = true) : l.take 3 = [46, 46, 46] := by
  unfold dotsB at h
  have h := of_decide_eq_true h
  have h2 := dots_len (l := l) (by unfold dotsB; exact decide_eq_true h)
  match l, h2 with
  | a :: b :: c :: l, _ =>
    simp at h
    obtain ⟨h1, h2, h3⟩ := h
    have e1 : a = 46 := UInt8.toNat_inj.1 (by simpa using h1)
    have e2 : b = 46 := UInt8.toNat_inj.1 (by simpa using h2)
    have e3 : c = 46 := UInt8.toNat_inj.1 (by simpa using h3)
    subst e1; subst e2; subst e3; rfl
theorem oneP_text {l : List UInt8} {kd : Nat} {t : List UInt8} {n : Int} {len : Nat} (h : oneP l = .ok kd t n len) : 1 ≤ kd ∧ kd ≤ 4 ∧ (kd = 3 ∨ t = l.take len) := by
  cases l with
  | nil => cases h
  | cons c l =>
    rw [oneP_cons] at h
    by_cases h1 : letB c = true
    · rw [if_pos h1] at h
      split at h
      · cases h
      · injection h with e1 e2 e3 e4
        exact ⟨by omega, by omega, .inr (by rw [← e2, ← e4])⟩
    rw [if_neg h1] at h
    by_cases h2 : c.toNat = 45 ∨ digB c = true
    · rw [if_pos h2] at h
      have := numP_take h
      exact ⟨by omega, by omega, .inr this.2⟩
    rw [if_neg h2] at h
    by_cases h3 : c.toNat = 34
    · rw [if_pos h3] at h
      have := (txtP_len _ _ _ h).2.2.1
      exact ⟨by omega, by omega, .inl this⟩
    rw [if_neg h3] at h
    by_cases h4 : dotsB (c :: l) = true
    · rw [if_pos h4] at h
      injection h with e1 e2 e3 e4
      exact ⟨by omega, by omega, .inr (by rw [← e4, dots_take h4, e2])⟩
    rw [if_neg h4] at h
    by_cases h5 : signB c = true
    · rw [if_pos h5] at h
      injection h with e1 e2 e3 e4
      exact ⟨by omega, by omega, .inr (by rw [← e4, ← e2]; rfl)⟩
    · rw [if_neg h5] at h; cases h
/-- What is told of tokens: the last is the end, and it alone; they rise; each but texts stands there. -/
structure Stand (a : Nat) (l : List UInt8) (ts : List Tok) : Prop where
  one : 0 < ts.length
  kinds : ∀ i (h : i < ts.length), (ts[i].kind = 0 ↔ i = ts.length - 1) ∧ ts[i].kind ≤ 4
  rise : ∀ i (h : i + 1 < ts.length), ts[i].at_ < ts[i + 1].at_
  there : ∀ i (h : i < ts.length), a ≤ ts[i].at_ ∧ ts[i].at_ ≤ a + l.length ∧ (ts[i].kind ≠ 3 → ts[i].kind ≠ 0 → (l.drop (ts[i].at_ - a)).take ts[i].text.length = ts[i].text)
  last : ∀ h : ts.length - 1 < ts.length, ts[ts.length - 1].at_ = a + l.length
theorem Stand.far {a b : Nat} {l m : List UInt8} {ts : List Tok} (h : Stand b m ts) (hb : a ≤ b) (hl : m = l.drop (b - a)) (hbl : b - a ≤ l.length) : Stand a l ts := by
  have hm : m.length = l.length - (b - a) := by rw [hl, List.length_drop]
  refine ⟨h.one, h.kinds, h.rise, fun i hi => ?_, fun hi => by rw [h.last hi, hm]; omega⟩
  obtain ⟨h1, h2, h3⟩ := h.there i hi
  refine ⟨by omega, by omega, fun k1 k2 => ?_⟩
  have := h3 k1 k2
  rw [hl, List.drop_drop] at this
  rw [show ts[i].at_ - a = b - a + (ts[i].at_ - b) from by omega]; exact this
theorem toksA_stand : ∀ (a : Nat) (l : List UInt8), ∀ ts, toksA a l = .ok ts → Stand a l ts := by
  refine toksA_ind ?_ ?_ ?_ ?_ ?_
  · intro a ts h
    rw [toksA_nil] at h; injection h with h; subst h
    exact ⟨by simp, fun i h => by simp at h; subst h; simp, fun i h => by simp at h, fun i h => by simp at h; subst h; simp, fun h => by simp⟩
  · intro a c l hb ih ts h
    rw [toksA_blk a hb] at h
    exact (ih ts h).far (by omega) (by rw [Nat.add_sub_cancel_left]; rfl) (by simp)
  · intro a c l hr ih ts h
    rw [toksA_rem a hr] at h
    have hl := runL_le lineB l
    refine (ih ts h).far (by omega) ?_ (by simp; omega)
    rw [show a + 1 + runL lineB l - a = runL lineB l + 1 from by omega]; rfl
  · intro a c l off e hb hr hx ts h
    rw [toksA_bad a hb hr hx] at h; cases h
  · intro a c l k t n len hb hr ho ih ts h
    rw [toksA_one a hb hr ho] at h
    obtain ⟨us, hu, rfl⟩ := Out.cons_ok h
    have hl := oneP_len ho
    have S := (ih us hu).far (a := a) (l := c :: l) (by omega) (by rw [Nat.add_sub_cancel_left]) (by omega)
    have S1 := ih us hu
    obtain ⟨k1, k2, k3⟩ := oneP_text ho
    have hus := S.one
    refine ⟨by simp, fun i hi => ?_, fun i hi => ?_, fun i hi => ?_, fun hi => ?_⟩
    · cases i with
      | zero => simp; omega
      | succ i =>
        have := S.kinds i (by simpa using hi)
        simp only [List.getElem_cons_succ, List.length_cons]
        refine ⟨?_, this.2⟩
        rw [this.1]; omega
    · cases i with
      | zero =>
        have := (S1.there 0 hus).1
        simp only [List.getElem_cons_succ, List.getElem_cons_zero]; omega
      | succ i =>
        have := S.rise i (by simpa using hi)
        simp only [List.getElem_cons_succ]; exact this
    · cases i with
      | zero =>
        simp only [List.getElem_cons_zero]
        refine ⟨Nat.le_refl _, by omega, fun n3 _ => ?_⟩
        rcases k3 with h | h
        · exact absurd h n3
        · rw [Nat.sub_self, List.drop_zero, h, List.length_take, Nat.min_eq_left hl.2]
      | succ i =>
        have := S.there i (by simpa using hi)
        simp only [List.getElem_cons_succ]; exact this
    · simp only [List.length_cons, Nat.add_sub_cancel]
      have := S.last (by omega)
      rw [List.getElem_cons]
      split
      · omega
      · exact this
theorem toks_stand {s : List UInt8} {ts : List Tok} (h : toks s = .ok ts) : Stand 0 s ts := toksA_stand 0 s ts (toks_ok h).2

/-! ### Tokens written anew -/
theorem runL_take_self (f : UInt8 → Bool) (l : List UInt8) : runL f (l.take (runL f l)) = runL f l := by
  rw [runL_full _ (runL_take_all l), List.length_take, Nat.min_eq_left (runL_le f l)]
theorem numP_self {l : List UInt8} {kd : Nat} {t : List UInt8} {n : Int} {len : Nat} (h : numP l = .ok kd t n len) (hl : l ≠ []) : numP (l.take len) = .ok kd t n len := by
  obtain ⟨D, d1, d2, d3, d4, d5, d6, d7, d8, d9⟩ := numP_ok h
  obtain ⟨f, hf⟩ : ∃ f, numFrom l = f := ⟨_, rfl⟩
  rw [hf] at d3 d6 d7 d8
  have hf1 : f ≤ 1 := by rw [← hf]; exact numFrom_le l
  have hD := runL_le digB (l.drop f)
  rw [d6, List.length_drop] at hD
  have hf' : numFrom (l.take len) = f := by
    rw [← hf]; unfold numFrom
    cases l with
    | nil => exact absurd rfl hl
    | cons c l =>
      obtain ⟨m, hm⟩ : ∃ m, len = m + 1 := ⟨len - 1, by omega⟩
      rw [hm, List.take_succ_cons]; rfl
  have hq : runL digB ((l.take len).drop f) = D := by
    rw [List.drop_take, d3, Nat.add_sub_cancel_left, ← d6]; exact runL_take_self _ _
  have hg : ∀ i, i < len → (l.take len).getD i 0 = l.getD i 0 := fun i hi => by
    rw [List.getD_eq_getElem?_getD, List.getD_eq_getElem?_getD, List.getElem?_take, if_pos hi]
  rw [numP_eq hf' hq, if_neg (by omega), hg f (by omega), if_neg (by rintro ⟨x, y⟩; exact d8 ⟨x, by omega⟩), if_neg (by rintro ⟨x, _⟩; rw [List.length_take] at x; omega), if_neg (by omega)]
  rw [d4, d5, d7, ← d3, List.take_take, Nat.min_self, List.drop_take, List.take_take, show min D (len - f) = D from by omega]
theorem oneP_self {l : List UInt8} {kd : Nat} {t : List UInt8} {n : Int} {len : Nat} (h : oneP l = .ok kd t n len) (h3 : kd ≠ 3) : oneP (l.take len) = .ok kd t n len := by
  have hlen := oneP_len h
  cases l with
  | nil => cases h
  | cons c l =>
    obtain ⟨m, hm⟩ : ∃ m, len = m + 1 := ⟨len - 1, by omega⟩
    have etk : (c :: l).take len = c :: l.take m := by rw [hm, List.take_succ_cons]
    rw [etk, oneP_cons]
    rw [oneP_cons] at h
    by_cases h1 : letB c = true
    · rw [if_pos h1] at h ⊢
      split at h
      · cases h
      · rename_i h32
        injection h with e1 e2 e3 e4
        rw [← etk, ← e4, runL_take_self, if_neg h32, List.take_take, Nat.min_self, e1, e2, e3]
    rw [if_neg h1] at h ⊢
    by_cases h2 : c.toNat = 45 ∨ digB c = true
    · rw [if_pos h2] at h ⊢
      rw [← etk]; exact numP_self h (by simp)
    rw [if_neg h2] at h ⊢
    by_cases h3' : c.toNat = 34
    · rw [if_pos h3'] at h
      exact absurd (txtP_len _ _ _ h).2.2.1 h3
    rw [if_neg h3'] at h ⊢
    by_cases h4 : dotsB (c :: l) = true
    · rw [if_pos h4] at h
      injection h with e1 e2 e3 e4
      have := dots_take h4
      rw [← etk, ← e4, this, if_pos (by decide), e1, e2, e3]
    rw [if_neg h4] at h
    by_cases h5 : signB c = true
    · rw [if_pos h5] at h
      rw [if_neg (by rw [dots_first _ (sign_nodot h5)]; decide), if_pos h5]; exact h
    · rw [if_neg h5] at h; cases h
def flatT (ts : List Tok) : List UInt8 := ts.flatMap fun t => t.text ++ [32]
theorem flatT_cons (t : Tok) (ts : List Tok) : flatT (t :: ts) = t.text ++ 32 :: flatT ts := by unfold flatT; rw [List.flatMap_cons, List.append_assoc]; rfl
theorem flatT_snoc (ts : List Tok) (t : Tok) : flatT (ts ++ [t]) = flatT ts ++ (t.text ++ [32]) := by unfold flatT; rw [List.flatMap_append]; simp
def likeT (t u : Tok) : Prop := t.kind = u.kind ∧ t.text = u.text ∧ t.n = u.n
def LikeT : List Tok → List Tok → Prop
  | [], [] => True
  | t :: ts, u :: us => likeT t u ∧ LikeT ts us
  | _, _ => False
theorem LikeT.len : ∀ {ts us : List Tok}, LikeT ts us → us.length = ts.length
  | [], [], _ => rfl
  | t :: ts, u :: us, h => by simp only [List.length_cons]; rw [LikeT.len h.2]
theorem LikeT.get : ∀ {ts us : List Tok}, LikeT ts us → ∀ i (h1 : i < ts.length) (h2 : i < us.length), likeT ts[i] us[i]
  | [], [], _, i, h1, _ => absurd h1 (by simp)
  | t :: ts, u :: us, h, 0, _, _ => h.1
  | t :: ts, u :: us, h, i + 1, h1, h2 => LikeT.get h.2 i (by simpa using h1) (by simpa using h2)
theorem toksA_again : ∀ (a : Nat) (l : List UInt8), ∀ ts, toksA a l = .ok ts → (∀ t ∈ ts, t.kind ≠ 3) → (flatT ts).length ≤ 2 * l.length + 1 ∧ ∀ b, ∃ us, toksA b (flatT ts) = .ok us ∧ LikeT ts us := by
  refine toksA_ind ?_ ?_ ?_ ?_ ?_
  · intro a ts h _
    rw [toksA_nil] at h; injection h with h; subst h
    refine ⟨by simp [flatT], fun b => ⟨[⟨0, [], 0, b + 1⟩], ?_, ⟨rfl, rfl, rfl⟩, trivial⟩⟩
    show toksA b [32] = _
    rw [toksA_blk b (by decide), toksA_nil]
  · intro a c l hb ih ts h h3
    rw [toksA_blk a hb] at h
    have := ih ts h h3
    exact ⟨by simp only [List.length_cons]; omega, this.2⟩
  · intro a c l hr ih ts h h3
    rw [toksA_rem a hr] at h
    have := ih ts h h3
    rw [List.length_drop] at this
    exact ⟨by simp only [List.length_cons]; omega, this.2⟩
  · intro a c l off e hb hr hx ts h _
    rw [toksA_bad a hb hr hx] at h; cases h
  · intro a c l k t n len hb hr ho ih ts h h3
    rw [toksA_one a hb hr ho] at h
    obtain ⟨us, hu, rfl⟩ := Out.cons_ok h
    have hl := oneP_len ho
    have hk : k ≠ 3 := h3 ⟨k, t, n, a⟩ (by simp)
    obtain ⟨i1, i2⟩ := ih us hu (fun u hu' => h3 u (by simp [hu']))
    have ht := (oneP_text ho).2.2.resolve_left hk
    have hs := oneP_sep (flatT us) (g := 32) (by decide) (by decide) (oneP_self ho hk)
    rw [← ht] at hs
    have htl : t.length = len := by rw [ht, List.length_take, Nat.min_eq_left hl.2]
    rw [List.length_drop] at i1
    refine ⟨by rw [flatT_cons, List.length_append, List.length_cons]; simp only [htl]; omega, fun b => ?_⟩
    obtain ⟨vs, hv1, hv2⟩ := i2 (b + len + 1)
    refine ⟨⟨k, t, n, b⟩ :: vs, ?_, ⟨rfl, rfl, rfl⟩, hv2⟩
    rw [flatT_cons]
    show toksA b (t ++ 32 :: flatT us) = _
    obtain ⟨m, hm⟩ : ∃ m, len = m + 1 := ⟨len - 1, by omega⟩
    have e : t = c :: l.take m := by rw [ht, hm, List.take_succ_cons]
    have hs' : oneP (c :: (l.take m ++ 32 :: flatT us)) = .ok k t n len := by rw [← List.cons_append, ← e]; exact hs
    have hd : (t ++ 32 :: flatT us).drop len = 32 :: flatT us := by rw [List.drop_left' htl]
    conv => lhs; rw [e, List.cons_append]
    rw [toksA_one b hb hr hs', ← List.cons_append, ← e, hd, toksA_blk _ (by decide), hv1]; rfl
theorem toks_again {s : List UInt8} {ts : List Tok} (h : toks s = .ok ts) (h3 : ∀ t ∈ ts, t.kind ≠ 3) (hs : s.length ≤ 600) : (flatT ts).length ≤ 1201 ∧ ∃ us, toks (flatT ts) = .ok us ∧ LikeT ts us := by
  obtain ⟨h1, h2⟩ := toksA_again 0 s ts (toks_ok h).2 h3
  refine ⟨by omega, ?_⟩
  rw [toks_short (by omega)]; exact h2 0

/-! ### Texts in quotes -/
def qB1 (c : UInt8) : List UInt8 := if c.toNat = 10 then [92, 110] else if c.toNat = 34 ∨ c.toNat = 92 then [92, c] else [c]
def qB (p : List UInt8) : List UInt8 := p.flatMap qB1
theorem qB_cons (c : UInt8) (p : List UInt8) : qB (c :: p) = qB1 c ++ qB p := by unfold qB; rw [List.flatMap_cons]
theorem qB_snoc (p : List UInt8) (c : UInt8) : qB (p ++ [c]) = qB p ++ qB1 c := by unfold qB; rw [List.flatMap_append]; simp
theorem qB_len : ∀ p : List UInt8, (qB p).length ≤ 2 * p.length
  | [] => by simp [qB]
  | c :: p => by
    have := qB_len p
    have h : (qB1 c).length ≤ 2 := by
      unfold qB1
      split
      · simp
      · split <;> simp
    rw [qB_cons, List.length_append, List.length_cons]; omega
theorem u8_of {c : UInt8} {n : Nat} (hn : n < 256) (h : c.toNat = n) : c = UInt8.ofNat n := by
  apply UInt8.toNat_inj.1; rw [h]; simp; omega
theorem txtP_q1 (acc : List UInt8) (k : Nat) (c : UInt8) (l : List UInt8) : txtP acc k (qB1 c ++ l) = txtP (acc ++ [c]) (k + (qB1 c).length) l := by
  unfold qB1
  by_cases h1 : c.toNat = 10
  · rw [if_pos h1]
    have e : escY 110 = some 10 := by decide
    show txtP acc k (92 :: 110 :: l) = _
    rw [txtP_ee _ _ _ _ (by decide), e, u8_of (by decide) h1]; rfl
  rw [if_neg h1]
  by_cases h2 : c.toNat = 34 ∨ c.toNat = 92
  · rw [if_pos h2]
    have e : escY c = some c := by unfold escY; rw [if_pos (by omega)]
    show txtP acc k (92 :: c :: l) = _
    rw [txtP_ee _ _ _ _ (by decide), e]; rfl
  · rw [if_neg h2]
    show txtP acc k (c :: l) = _
    rw [txtP_oo _ _ _ (by omega) h1 (by omega)]; rfl
theorem txtP_qB : ∀ (p acc : List UInt8) (k : Nat) (l : List UInt8), txtP acc k (qB p ++ l) = txtP (acc ++ p) (k + (qB p).length) l
  | [], acc, k, l => by simp [qB]
  | c :: p, acc, k, l => by
    rw [qB_cons, List.append_assoc, txtP_q1, txtP_qB p, List.length_append]
    congr 1
    · simp
    · omega
theorem toks_quote {p : List UInt8} (h : p.length ≤ 600) : toks (34 :: qB p ++ [34]) = if 200 < p.length then .bad 0 2 else .ok [⟨3, p, 0, 0⟩, ⟨0, [], 0, (qB p).length + 2⟩] := by
  have hl := qB_len p
  rw [toks_short (by simp; omega)]
  have e : oneP (34 :: (qB p ++ [34])) = if 200 < p.length then .bad 0 2 else .ok 3 p 0 ((qB p).length + 2) := by
    rw [oneP_cons, if_neg (by decide), if_neg (by decide), if_pos (by decide), txtP_qB, txtP_qq _ _ _ (by decide), List.nil_append]
    split
    · rfl
    · congr 1; omega
  rw [List.cons_append]
  by_cases h2 : 200 < p.length
  · rw [if_pos h2] at e ⊢
    rw [toksA_bad _ (by decide) (by decide) e]
  · rw [if_neg h2] at e ⊢
    rw [toksA_one _ (by decide) (by decide) e, List.drop_eq_nil_of_le (by simp), toksA_nil]
    simp [Out.cons]
theorem toks_open {p : List UInt8} (h : p.length ≤ 600) : toks (34 :: qB p) = .bad ((qB p).length + 1) 4 := by
  have hl := qB_len p
  rw [toks_short (by simp; omega)]
  have e : oneP (34 :: qB p) = .bad ((qB p).length + 1) 4 := by
    rw [oneP_cons, if_neg (by decide), if_neg (by decide), if_pos (by decide)]
    have := txtP_qB p [] 1 []
    rw [List.append_nil] at this
    rw [this, txtP_nil', Nat.add_comm]
  rw [toksA_bad _ (by decide) (by decide) e, Nat.zero_add]

end Go.Proofs.YtjcigaceacgjaaaDoor
