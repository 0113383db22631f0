/- ParseCut: the walk. Numbers written out, in plain Lean. Declarations, in plain Lean: trees, and how tokens are read as declarations; what is read takes tokens. -/
import Derived.Test.YtgephneppgcnlaaDoorPaw
import Derived.Test.YtgephneppgcnlaaDoorPlA
import Derived.Test.YtgephneppgcnlaaDoorTkA
import Derived.Test.YtgephneppgcnlaaDoorPrA
namespace Go.Proofs.YtgephneppgcnlaaDoor
open Go Go.RowKit
set_option linter.unusedVariables false
set_option linter.unusedSimpArgs false

theorem document_b (s : ByteArray) (w : World) (hs : s.size ≤ maxLen) : Calls Tryd.prog 14 #[.string s] w (DocRes w (docP s.data.toList)) := document_any s.data.toList w hs
theorem docP_bad {s : List UInt8} {a e : Nat} (h : docP s = .bad a e) : e ≠ 0 := by
  unfold docP at h
  cases ht : toks s with
  | bad x c =>
    rw [ht] at h
    have h : DR1.bad x c = .bad a e := h
    injection h with _ h; subst h; exact toks_bad ht
  | ok ts =>
    rw [ht] at h
    have h : (match docF (ts.length + 1) ⟨[], []⟩ ts with | .ok d _ => DR1.ok d | .bad a e => .bad a e) = .bad a e := h
    cases hd : docF (ts.length + 1) ⟨[], []⟩ ts with
    | ok d r => rw [hd] at h; cases h
    | bad x c => rw [hd] at h; injection h with _ h; subst h; exact docF_bad hd
end Go.Proofs.YtgephneppgcnlaaDoor
namespace Go.Proofs.YtgephneppgcnlaaDoor
set_option linter.unusedVariables false
set_option linter.unusedSimpArgs false

/-- l are the last digits of K, k stands for those ahead. -/
structure NumI (K k : Nat) (l : List UInt8) : Prop where
  digs : ∀ x ∈ l, digB x = true
  val : decV k l = K
  first : k = 0 → l = [] ∨ (l = [48] ∧ K = 0) ∨ ∃ c r, l = c :: r ∧ c.toNat ≠ 48
  len : l.length ≤ 18
theorem decV_ge : ∀ (l : List UInt8) (a : Nat), a * 10 ^ l.length ≤ decV a l
  | [], a => by rw [decV_nil]; simp
  | c :: l, a => by
    rw [decV_cons, List.length_cons, Nat.pow_succ]
    have := decV_ge l (a * 10 + (c.toNat - 48))
    have h2 : (a * 10) * 10 ^ l.length ≤ (a * 10 + (c.toNat - 48)) * 10 ^ l.length := Nat.mul_le_mul (by omega) (Nat.le_refl _)
    have e : a * (10 ^ l.length * 10) = a * 10 * 10 ^ l.length := by rw [Nat.mul_comm (10 ^ l.length) 10, Nat.mul_assoc]
    omega
theorem NumI.start (K : Nat) : NumI K K [] := ⟨by simp, decV_nil K, fun _ => .inl rfl, by simp⟩
theorem dig_of (d : Nat) (h : d < 10) : digB (UInt8.ofNat (48 + d)) = true ∧ (UInt8.ofNat (48 + d)).toNat = 48 + d := by
  have e : (UInt8.ofNat (48 + d)).toNat = 48 + d := by simp; omega
  refine ⟨?_, e⟩
  unfold digB; rw [e]; simp; omega
theorem NumI.step {K k : Nat} {l : List UInt8} (h : NumI K k l) (hK : K < 1000000000000000000) (hg : 0 < k ∨ l = []) : NumI K (k / 10) (UInt8.ofNat (48 + k % 10) :: l) := by
  obtain ⟨d1, d2⟩ := dig_of (k % 10) (by omega)
  refine ⟨fun x hx => ?_, ?_, fun h0 => ?_, ?_⟩
  · rcases List.mem_cons.1 hx with rfl | hx
    · exact d1
    · exact h.digs x hx
  · rw [decV_cons, d2, show k / 10 * 10 + (48 + k % 10 - 48) = k from by omega]; exact h.val
  · by_cases hk : k = 0
    · have hl : l = [] := by rcases hg with h | h; exact absurd hk (by omega); exact h
      subst hl; subst hk
      have := h.val
      rw [decV_nil] at this
      exact .inr (.inl ⟨rfl, this.symm⟩)
    · exact .inr (.inr ⟨_, _, rfl, by rw [d2]; omega⟩)
  · rw [List.length_cons]
    rcases hg with hg | hg
    · have h1 := decV_ge l k
      rw [h.val] at h1
      have h2 : 1 * 10 ^ l.length ≤ k * 10 ^ l.length := Nat.mul_le_mul hg (Nat.le_refl _)
      have h3 : 10 ^ l.length < 10 ^ 18 := by
        have : 10 ^ 18 = 1000000000000000000 := by decide
        omega
      have := (Nat.pow_lt_pow_iff_right (a := 10) (by decide)).1 h3
      omega
    · subst hg; simp
theorem dig_nolet {c : UInt8} (h : digB c = true) : letB c = false := by
  have := dig_bd h
  unfold letB
  simp only [Bool.or_eq_false_iff, Bool.and_eq_false_iff, decide_eq_false_iff_not]
  omega
theorem dig_misc {c : UInt8} (h : digB c = true) : blkB c = false ∧ c.toNat ≠ 35 ∧ c.toNat ≠ 45 := by
  have := dig_bd h
  unfold blkB
  simp only [Bool.or_eq_false_iff, decide_eq_false_iff_not]
  omega
/-- The sign and the digits of a number. -/
def sgn (neg : Bool) (l : List UInt8) : List UInt8 := if neg then 45 :: l else l
theorem numFrom_sgn {neg : Bool} {l x : List UInt8} (hd : ∀ c ∈ l, digB c = true) (hl : l ≠ []) : numFrom (sgn neg l ++ x) = if neg then 1 else 0 := by
  unfold sgn numFrom
  cases neg
  · cases l with
    | nil => exact absurd rfl hl
    | cons c l =>
      have := (dig_misc (hd c (by simp))).2.2
      simp [this]
  · simp
theorem drop_sgn {neg : Bool} {l x : List UInt8} : (sgn neg l ++ x).drop (if neg then 1 else 0) = l ++ x := by
  unfold sgn; cases neg <;> simp
theorem len_sgn (neg : Bool) (l : List UInt8) : (sgn neg l).length = (if neg then 1 else 0) + l.length := by
  unfold sgn; cases neg
  · simp
  · simp; omega
theorem numP_sgn {neg : Bool} {l : List UInt8} (x : List UInt8) (hd : ∀ c ∈ l, digB c = true) (hl : l ≠ []) (h18 : l.length ≤ 18) (h0 : l = [48] ∨ ∃ c r, l = c :: r ∧ c.toNat ≠ 48) (hx : ∀ h : 0 < x.length, digB x[0] = false) :
    numP (sgn neg l ++ x) = if 0 < x.length ∧ (letB (x.getD 0 0) = true ∨ (x.getD 0 0).toNat = 46) then .bad (sgn neg l).length 4 else .ok 2 (sgn neg l) ((if neg then -1 else 1) * (decV 0 l : Int)) (sgn neg l).length := by
  obtain ⟨f, hf⟩ : ∃ f, (if neg then 1 else 0) = f := ⟨_, rfl⟩
  have e1 : numFrom (sgn neg l ++ x) = f := by rw [numFrom_sgn hd hl, hf]
  have e2 : (sgn neg l ++ x).drop f = l ++ x := by rw [← hf]; exact drop_sgn
  have e3 : runL digB ((sgn neg l ++ x).drop f) = l.length := by
    rw [e2, runL_cut _ _ (.inr hx), runL_full _ hd]
  have hlen : (sgn neg l).length = f + l.length := by rw [len_sgn, hf]
  have hlp : 0 < l.length := by cases l with | nil => exact absurd rfl hl | cons => simp
  have hg : (sgn neg l ++ x).getD f 0 = l.getD 0 0 := by
    have : ((sgn neg l ++ x).drop f).getD 0 0 = (l ++ x).getD 0 0 := by rw [e2]
    rw [List.getD_eq_getElem?_getD, List.getElem?_drop, Nat.add_zero, ← List.getD_eq_getElem?_getD] at this
    rw [this, getD_left _ _ _ hlp]
  have hg2 : (sgn neg l ++ x).getD (f + l.length) 0 = x.getD 0 0 := by
    rw [← hlen, List.getD_eq_getElem?_getD, List.getElem?_append_right (Nat.le_refl _), Nat.sub_self, ← List.getD_eq_getElem?_getD]
  rw [numP_eq e1 e3, if_neg (by omega), hg, hg2]
  have hz : ¬ ((l.getD 0 0).toNat = 48 ∧ f + 1 < f + l.length) := by
    rintro ⟨h1, h2⟩
    rcases h0 with h0 | ⟨c, r, h0, hc⟩
    · subst h0; simp at h2
    · subst h0; exact hc h1
  rw [if_neg hz, List.length_append, hlen]
  by_cases hb : 0 < x.length ∧ (letB (x.getD 0 0) = true ∨ (x.getD 0 0).toNat = 46)
  · rw [if_pos hb, if_pos ⟨by omega, hb.2⟩]
  · rw [if_neg hb, if_neg (fun h => hb ⟨by omega, h.2⟩), if_neg (by omega), e2, ← hlen]
    congr 1
    · rw [List.take_left]
    · rw [List.take_left, ← hf]; cases neg <;> rfl
theorem oneP_sgn {neg : Bool} {l : List UInt8} (x : List UInt8) (hd : ∀ c ∈ l, digB c = true) (hl : l ≠ []) : oneP (sgn neg l ++ x) = numP (sgn neg l ++ x) ∧ ∃ c r, sgn neg l ++ x = c :: r ∧ blkB c = false ∧ c.toNat ≠ 35 := by
  cases neg
  · cases l with
    | nil => exact absurd rfl hl
    | cons c l =>
      have hc := hd c (by simp)
      refine ⟨?_, c, l ++ x, rfl, (dig_misc hc).1, (dig_misc hc).2.1⟩
      show oneP (c :: (l ++ x)) = _
      rw [oneP_cons, if_neg (by rw [dig_nolet hc]; decide), if_pos (.inr hc)]; rfl
  · refine ⟨?_, 45, l ++ x, rfl, by decide, by decide⟩
    show oneP (45 :: (l ++ x)) = _
    rw [oneP_cons, if_neg (by decide), if_pos (.inl (by decide))]; rfl
end Go.Proofs.YtgephneppgcnlaaDoor
namespace Go.Proofs.YtgephneppgcnlaaDoor
set_option linter.unusedVariables false
set_option linter.unusedSimpArgs false

/-- An input, or an argument. -/
structure IN where
  name : List UInt8
  t : TR
  has : Bool
  v : VT
structure FD where
  name : List UInt8
  args : List IN
  t : TR
  has : Bool
  v : VT
def FD.of (i : IN) : FD := ⟨i.name, [], i.t, i.has, i.v⟩
structure TD where
  kind : Nat
  name : List UInt8
  fields : List FD
  names : List (List UInt8)
/-! ### What is read takes tokens -/
end Go.Proofs.YtgephneppgcnlaaDoor
