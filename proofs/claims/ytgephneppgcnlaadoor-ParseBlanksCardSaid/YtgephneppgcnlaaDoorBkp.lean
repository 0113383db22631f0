/- Commas, blanks and remarks between the tokens of a text: the plain law. -/
import Derived.Test.YtgephneppgcnlaaDoorTkA
import Derived.Test.YtgephneppgcnlaaDoorPlA
namespace Go.Proofs.YtgephneppgcnlaaDoor
set_option linter.unusedVariables false
set_option linter.unusedSimpArgs false

/-- How many bytes a text in quotes takes from here on. -/
def qE : List UInt8 → Nat
  | [] => 0
  | [c] => 1
  | c :: d :: l => if c.toNat = 92 then qE l + 2 else if c.toNat = 34 then 1 else qE (d :: l) + 1
theorem qE_one (c : UInt8) : qE [c] = 1 := by rw [qE]
theorem qE_esc {c : UInt8} (d : UInt8) (l : List UInt8) (h : c.toNat = 92) : qE (c :: d :: l) = qE l + 2 := by rw [qE, if_pos h]
theorem qE_quote {c : UInt8} (l : List UInt8) (h : c.toNat = 34) : qE (c :: l) = 1 := by
  cases l with
  | nil => rw [qE]
  | cons d l => rw [qE, if_neg (by omega), if_pos h]
theorem qE_else {c : UInt8} (l : List UInt8) (h1 : c.toNat ≠ 92) (h2 : c.toNat ≠ 34) : qE (c :: l) = qE l + 1 := by
  cases l with
  | nil => rw [qE, qE]
  | cons d l => rw [qE, if_neg h1, if_neg h2]
theorem qE_le : ∀ (n : Nat) (l : List UInt8), l.length ≤ n → qE l ≤ l.length
  | 0, l, h => by
    have : l = [] := List.length_eq_zero_iff.1 (by omega)
    subst this; rw [qE]; omega
  | n + 1, [], h => by rw [qE]; omega
  | n + 1, [c], h => by rw [qE]; simp
  | n + 1, c :: d :: l, h => by
    simp only [List.length_cons] at h
    rw [qE]
    have h1 := qE_le n l (by omega)
    have h2 := qE_le n (d :: l) (by simp only [List.length_cons]; omega)
    simp only [List.length_cons] at h2 ⊢
    split
    · omega
    · split <;> omega
/-- A text in quotes: it takes so many bytes, and reads alike where it stands alone. -/
theorem txtP_qE : ∀ (m : Nat) (l acc : List UInt8) (k : Nat) {kd : Nat} {t : List UInt8} {n : Int} {len : Nat}, l.length ≤ m → txtP acc k l = .ok kd t n len → k + qE l = len ∧ txtP acc k (l.take (len - k)) = .ok kd t n len
  | 0, l, acc, k, kd, t, n, len, hm, h => by
    have : l = [] := List.length_eq_zero_iff.1 (by omega)
    subst this; rw [txtP_nil'] at h; cases h
  | m + 1, [], acc, k, kd, t, n, len, hm, h => by rw [txtP_nil'] at h; cases h
  | m + 1, c :: l, acc, k, kd, t, n, len, hm, h => by
    have hl := txtP_len _ _ _ h
    simp only [List.length_cons] at hm
    by_cases h1 : c.toNat = 34
    · rw [txtP_qq acc k l h1] at h
      split at h
      · cases h
      · rename_i h2
        injection h with e1 e2 e3 e4
        subst e4
        refine ⟨by rw [qE_quote l h1], ?_⟩
        rw [show k + 1 - k = 0 + 1 from by omega, List.take_succ_cons, txtP_qq acc k _ h1, if_neg h2, e1, e2, e3]
    by_cases h2 : c.toNat = 10
    · rw [txtP_nn acc k l h2] at h; cases h
    by_cases h3 : c.toNat = 92
    · cases l with
      | nil => rw [txtP_ee0 acc k h3] at h; cases h
      | cons d l =>
        rw [txtP_ee acc k d l h3] at h
        cases hx : escY d with
        | none => rw [hx] at h; cases h
        | some x =>
          rw [hx] at h
          have h : txtP (acc ++ [x]) (k + 2) l = .ok kd t n len := h
          have hl2 := txtP_len _ _ _ h
          obtain ⟨i1, i2⟩ := txtP_qE m l _ _ (by simp only [List.length_cons] at hm; omega) h
          refine ⟨by rw [qE_esc d l h3]; omega, ?_⟩
          rw [show len - k = (len - (k + 2)) + 1 + 1 from by omega, List.take_succ_cons, List.take_succ_cons, txtP_ee acc k d _ h3, hx]
          exact i2
    · rw [txtP_oo acc k l h1 h2 h3] at h
      have hl2 := txtP_len _ _ _ h
      obtain ⟨i1, i2⟩ := txtP_qE m l _ _ (by omega) h
      refine ⟨by rw [qE_else l h3 h1]; omega, ?_⟩
      rw [show len - k = (len - (k + 1)) + 1 from by omega, List.take_succ_cons, txtP_oo acc k _ h1 h2 h3]
      exact i2
theorem oneP_alone {l : List UInt8} {kd : Nat} {t : List UInt8} {n : Int} {len : Nat} (h : oneP l = .ok kd t n len) : oneP (l.take len) = .ok kd t n len := by
  by_cases h3 : kd = 3
  · have hlen := oneP_len h
    cases l with
    | nil => cases h
    | cons c l =>
      obtain ⟨m, hm⟩ : ∃ m, len = m + 1 := ⟨len - 1, by omega⟩
      have etk : (c :: l).take len = c :: l.take m := by rw [hm, List.take_succ_cons]
      rw [etk, oneP_cons]
      rw [oneP_cons] at h
      by_cases h1 : letB c = true
      · rw [if_pos h1] at h
        split at h
        · cases h
        · injection h with e1; omega
      rw [if_neg h1] at h ⊢
      by_cases h2 : c.toNat = 45 ∨ digB c = true
      · rw [if_pos h2] at h
        have := (numP_take h).1; omega
      rw [if_neg h2] at h ⊢
      by_cases h4 : c.toNat = 34
      · rw [if_pos h4] at h ⊢
        have := (txtP_qE _ l _ _ (Nat.le_refl _) h).2
        rw [hm, show m + 1 - 1 = m from by omega] at this
        rw [hm]; exact this
      rw [if_neg h4] at h
      split at h
      · injection h with e1; omega
      · split at h
        · injection h with e1; omega
        · cases h
  · exact oneP_self h h3
/-- Where a token ends, as the law has it. -/
def endT (s : List UInt8) (t : Tok) : Nat := if t.kind = 3 then t.at_ + 1 + qE (s.drop (t.at_ + 1)) else t.at_ + t.text.length
theorem oneP_qE {c : UInt8} {l : List UInt8} {t : List UInt8} {n : Int} {len : Nat} (h : oneP (c :: l) = .ok 3 t n len) : len = 1 + qE l := by
  rw [oneP_cons] at h
  by_cases h1 : letB c = true
  · rw [if_pos h1] at h
    split at h
    · cases h
    · injection h with e1; omega
  rw [if_neg h1] at h
  by_cases h2 : c.toNat = 45 ∨ digB c = true
  · rw [if_pos h2] at h
    have := (numP_take h).1; omega
  rw [if_neg h2] at h
  by_cases h4 : c.toNat = 34
  · rw [if_pos h4] at h
    exact (txtP_qE _ l _ _ (Nat.le_refl _) h).1.symm
  rw [if_neg h4] at h
  split at h
  · injection h with e1; omega
  · split at h
    · injection h with e1; omega
    · cases h
theorem endT_one {s : List UInt8} {a : Nat} {c : UInt8} {l : List UInt8} {k : Nat} {t : List UInt8} {n : Int} {len : Nat} (hs : s.drop a = c :: l) (h : oneP (c :: l) = .ok k t n len) : endT s ⟨k, t, n, a⟩ = a + len := by
  unfold endT
  by_cases h3 : k = 3
  · subst h3
    rw [if_pos rfl, oneP_qE h]
    show a + 1 + qE (s.drop (a + 1)) = _
    rw [← List.drop_drop, hs, List.drop_one, List.tail_cons]; omega
  · rw [if_neg h3]
    have h1 := (oneP_text h).2.2.resolve_left h3
    have h2 := oneP_len h
    show a + t.length = _
    rw [h1, List.length_take, Nat.min_eq_left h2.2]
/-- A token as it stands in the text. -/
def pcT (s : List UInt8) (t : Tok) : List UInt8 := (s.drop t.at_).take (endT s t - t.at_)
/-- What may stand between. -/
structure GapOk (g : List UInt8) : Prop where
  first : ∃ c r, g = c :: r ∧ ldB c = false ∧ c.toNat ≠ 46
  skip : ∀ a l, toksA a (g ++ l) = toksA (a + g.length) l
def blkT (s : List UInt8) (g : Nat → List UInt8) : Nat → List Tok → List UInt8
  | i, t :: u :: r => pcT s t ++ (g i ++ blkT s g (i + 1) (u :: r))
  | _, _ => []
theorem toksA_blks (s : List UInt8) (g : Nat → List UInt8) (hg : ∀ i, GapOk (g i)) : ∀ (a : Nat) (l : List UInt8), ∀ ts, toksA a l = .ok ts → s.drop a = l → ∀ i b, ∃ us, toksA b (blkT s g i ts) = .ok us ∧ LikeT ts us := by
  refine toksA_ind ?_ ?_ ?_ ?_ ?_
  · intro a ts h _ i b
    rw [toksA_nil] at h; injection h with h; subst h
    exact ⟨[⟨0, [], 0, b⟩], by rw [blkT, toksA_nil]; simp, ⟨rfl, rfl, rfl⟩, trivial⟩
  · intro a c l hb ih ts h hs
    rw [toksA_blk a hb] at h
    exact ih ts h (by rw [← List.drop_drop, hs, List.drop_one, List.tail_cons])
  · intro a c l hr ih ts h hs
    rw [toksA_rem a hr] at h
    exact ih ts h (by rw [Nat.add_assoc, ← List.drop_drop, hs, Nat.add_comm 1, List.drop_succ_cons])
  · intro a c l off e hb hr hx ts h
    rw [toksA_bad a hb hr hx] at h; cases h
  · intro a c l k t n len hb hr ho ih ts h hs i b
    rw [toksA_one a hb hr ho] at h
    obtain ⟨us, hu, rfl⟩ := Out.cons_ok h
    have hl := oneP_len ho
    have hne := (toksA_at _ _ _ hu).1
    obtain ⟨u, us, rfl⟩ : ∃ u r, us = u :: r := by
      cases us with
      | nil => simp at hne
      | cons u r => exact ⟨u, r, rfl⟩
    obtain ⟨c0, g0, hg0, hg1, hg2⟩ := (hg i).first
    obtain ⟨vs, hv1, hv2⟩ := ih _ hu (by rw [← List.drop_drop, hs]) (i + 1) (b + len + (g i).length)
    refine ⟨⟨k, t, n, b⟩ :: vs, ?_, ⟨rfl, rfl, rfl⟩, hv2⟩
    have hp : pcT s ⟨k, t, n, a⟩ = (c :: l).take len := by
      unfold pcT
      rw [endT_one hs ho]
      show (s.drop a).take (a + len - a) = _
      rw [hs, Nat.add_sub_cancel_left]
    rw [blkT, hp]
    generalize hR : blkT s g (i + 1) (u :: us) = R at *
    have hsep := oneP_sep (g0 ++ R) hg1 hg2 (oneP_alone ho)
    rw [show c0 :: (g0 ++ R) = g i ++ R from by rw [hg0]; rfl] at hsep
    obtain ⟨m, hm⟩ : ∃ m, len = m + 1 := ⟨len - 1, by omega⟩
    have e : (c :: l).take len = c :: l.take m := by rw [hm, List.take_succ_cons]
    have htl : ((c :: l).take len).length = len := by rw [List.length_take, Nat.min_eq_left hl.2]
    have hs' : oneP (c :: (l.take m ++ (g i ++ R))) = .ok k t n len := by rw [← List.cons_append, ← e]; exact hsep
    have hd : ((c :: l).take len ++ (g i ++ R)).drop len = g i ++ R := by rw [List.drop_left' htl]
    conv => lhs; rw [e, List.cons_append]
    rw [toksA_one b hb hr hs', ← List.cons_append, ← e, hd, (hg i).skip, hv1]; rfl
/-- The six gaps. -/
def gap6 (n : Nat) : List UInt8 := match n with | 0 => [32] | 1 => [10] | 2 => [44] | 3 => [9] | 4 => [35, 125, 10] | _ => [44, 44]
theorem gap6_ok (n : Nat) : GapOk (gap6 n) := by
  unfold gap6
  split
  · exact ⟨⟨32, [], rfl, by decide, by decide⟩, fun a l => toksA_blk a (by decide)⟩
  · exact ⟨⟨10, [], rfl, by decide, by decide⟩, fun a l => toksA_blk a (by decide)⟩
  · exact ⟨⟨44, [], rfl, by decide, by decide⟩, fun a l => toksA_blk a (by decide)⟩
  · exact ⟨⟨9, [], rfl, by decide, by decide⟩, fun a l => toksA_blk a (by decide)⟩
  · refine ⟨⟨35, [125, 10], rfl, by decide, by decide⟩, fun a l => ?_⟩
    show toksA a (35 :: 125 :: 10 :: l) = _
    rw [toksA_rem a (by decide)]
    have : runL lineB (125 :: 10 :: l) = 1 := by
      rw [runL, if_pos (by decide), runL, if_neg (by decide)]
    rw [this]
    show toksA (a + 1 + 1) (10 :: l) = _
    rw [toksA_blk _ (by decide)]; rfl
  · refine ⟨⟨44, [44], rfl, by decide, by decide⟩, fun a l => ?_⟩
    show toksA a (44 :: 44 :: l) = _
    rw [toksA_blk a (by decide), toksA_blk _ (by decide)]; rfl
theorem gap6_len (n : Nat) : (gap6 n).length ≤ 3 := by unfold gap6; split <;> simp
/-- The text with gaps, as the law makes it: so many tokens of it. -/
def upT (s : List UInt8) (g : Nat → List UInt8) (ts : List Tok) : Nat → List UInt8
  | 0 => []
  | n + 1 => upT s g ts n ++ (pcT s (ts.getD n ⟨0, [], 0, 0⟩) ++ g n)
theorem upT_cons (s : List UInt8) (g : Nat → List UInt8) (t : Tok) (ts : List Tok) : ∀ n, upT s g (t :: ts) (n + 1) = pcT s t ++ (g 0 ++ upT s (fun i => g (i + 1)) ts n)
  | 0 => by simp [upT]
  | n + 1 => by
    rw [upT, upT_cons s g t ts n, upT]
    simp
theorem blkT_shift (s : List UInt8) (g : Nat → List UInt8) : ∀ (ts : List Tok) (i : Nat), blkT s (fun j => g (j + 1)) i ts = blkT s g (i + 1) ts
  | [], _ => by rw [blkT, blkT] <;> simp
  | [_], _ => by rw [blkT, blkT] <;> simp
  | t :: u :: r, i => by rw [blkT, blkT, blkT_shift s g (u :: r) (i + 1)]
theorem upT_blkT (s : List UInt8) : ∀ (ts : List Tok) (g : Nat → List UInt8), upT s g ts (ts.length - 1) = blkT s g 0 ts
  | [], g => by rw [blkT]; rfl; simp
  | [_], g => by rw [blkT]; rfl; simp
  | t :: u :: r, g => by
    rw [blkT, show (t :: u :: r).length - 1 = (u :: r).length - 1 + 1 from by simp, upT_cons, upT_blkT s (u :: r), blkT_shift]
theorem pcT_len (s : List UInt8) (t : Tok) : (pcT s t).length ≤ s.length := by
  unfold pcT; rw [List.length_take, List.length_drop]; omega
theorem upT_len (s : List UInt8) (g : Nat → List UInt8) (hg : ∀ i, (g i).length ≤ 3) (ts : List Tok) : ∀ n, (upT s g ts n).length ≤ n * (s.length + 3)
  | 0 => by simp [upT]
  | n + 1 => by
    have h1 := upT_len s g hg ts n
    have h2 := pcT_len s (ts.getD n ⟨0, [], 0, 0⟩)
    have h3 := hg n
    rw [upT, List.length_append, List.length_append, Nat.succ_mul]; omega
theorem likeT_rel : ∀ {ts us : List Tok}, LikeT ts us → RelT (fun _ _ => True) ts us
  | [], [], _ => trivial
  | t :: ts, u :: us, h => ⟨⟨h.1.1, h.1.2.1, h.1.2.2, trivial⟩, likeT_rel h.2⟩
/-- Gaps between tokens change nothing. -/
theorem docP_blanks {s : List UInt8} {d : DC} (h : docP s = .ok d) {ts : List Tok} (ht : toks s = .ok ts) (g : Nat → List UInt8) (hg : ∀ i, GapOk (g i)) :
    2000 < (upT s g ts (ts.length - 1)).length ∨ docP (upT s g ts (ts.length - 1)) = .ok d := by
  rw [upT_blkT]
  obtain ⟨us, h1, h2⟩ := toksA_blks s g hg 0 s ts (toks_ok ht).2 rfl 0 0
  by_cases hl : 2000 < (blkT s g 0 ts).length
  · exact .inl hl
  · right
    have e : ∀ us : List Tok, (match docF (us.length + 1) ⟨[], []⟩ us with | .ok d _ => DR1.ok d | .bad a e => .bad a e) = (match docF (us.length + 1) ⟨[], []⟩ us with | .ok d _ => DR1.ok d | .bad a e => .bad a e) := fun _ => rfl
    unfold docP at h ⊢
    rw [ht] at h
    rw [toks_short (by omega), h1]
    have h : (match docF (ts.length + 1) ⟨[], []⟩ ts with | .ok d _ => DR1.ok d | .bad a e => .bad a e) = .ok d := h
    show (match docF (us.length + 1) ⟨[], []⟩ us with | .ok d _ => DR1.ok d | .bad a e => .bad a e) = .ok d
    rw [h2.len]
    have hs := doc_sim (ts.length + 1) ⟨[], []⟩ _ ts us (likeT_rel h2) (toks_end ht).1
    cases hq : docF (ts.length + 1) ⟨[], []⟩ ts with
    | bad a e => rw [hq] at h; cases h
    | ok x r =>
      rw [hq] at h hs
      injection h with h; subst h
      cases hq2 : docF (ts.length + 1) ⟨[], []⟩ us with
      | bad a e => rw [hq2] at hs; exact hs.elim
      | ok y r2 => rw [hq2] at hs; rw [hs.1]
end Go.Proofs.YtgephneppgcnlaaDoor
