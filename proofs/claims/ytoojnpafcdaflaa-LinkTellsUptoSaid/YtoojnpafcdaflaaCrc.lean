/- Bytes as one number, the lowest first; a CRC-32 sees every turned burst of at most 32 bits. -/
import Derived.Test.YtoojnpafcdaflaaSea
namespace Go.Proofs.Ytoojnpafcdaflaa
open Go Go.RowKit
set_option linter.unusedVariables false
set_option linter.unusedSimpArgs false

def num : List UInt8 → Nat
  | [] => 0
  | b :: l => b.toNat + 256 * num l
theorem add_xor256 {b m : Nat} (h : b < 256) : b + 256 * m = b ^^^ 256 * m := by
  have := split256 (b + 256 * m)
  rw [show (b + 256 * m) / 256 = m from by omega, show (b + 256 * m) % 256 = b from by omega, Nat.xor_comm] at this
  exact this
theorem crcN_add (a b c : Nat) : crcN (a + b) c = crcN a (crcN b c) := by
  induction a with
  | zero => rw [Nat.zero_add]; rfl
  | succ a ih => rw [show a + 1 + b = (a + b) + 1 from by omega]; simp only [crcN, ih]
theorem fold_num : ∀ (l : List UInt8) (c : Nat), l.foldl (fun c b => crcN 8 (c ^^^ b.toNat)) c = crcN (8 * l.length) (c ^^^ num l)
  | [], c => by simp [num, crcN]
  | b :: l, c => by
    rw [List.foldl_cons, fold_num l, List.length_cons, show 8 * (l.length + 1) = 8 * l.length + 8 from by omega, crcN_add]
    congr 1
    have hb : b.toNat < 256 := b.toNat_lt
    rw [num, add_xor256 hb, ← Nat.xor_assoc, crcN_xor 8 (c ^^^ b.toNat)]
    congr 1
    exact (crcN_shift 8 (num l)).symm
theorem crcBit_zero {c : Nat} (hc : c < 4294967296) (h : crcBit c = 0) : c = 0 := by
  unfold crcBit at h
  split at h
  · have h2 : c / 2 = 3988292384 := by
      have := congrArg (fun x => x ^^^ 3988292384) h
      simp only [Nat.xor_assoc, Nat.xor_self, Nat.xor_zero, Nat.zero_xor] at this
      exact this
    omega
  · rw [Nat.xor_zero] at h
    omega
theorem crcN_zero {c : Nat} (hc : c < 4294967296) : ∀ n, crcN n c = 0 → c = 0
  | 0, h => h
  | n + 1, h => crcN_zero hc n (crcBit_zero (crcN_lt hc n) h)
theorem num_sumB {s : Nat} (h : s < 4294967296) : num (sumB s) = s := by
  have e : ∀ n : Nat, n < 256 → (UInt8.ofNat n).toNat = n := by intro n hn; simp; omega
  simp only [sumB, num]
  rw [e _ (by omega), e _ (by omega), e _ (by omega), e _ (by omega)]
  omega
theorem crcT_sealed (l : List UInt8) : crcT (sealed l) = crcN 32 4294967295 := by
  have hl := crcT_lt l
  have h : crcT (sealed l) = (sumB (crc l)).foldl (fun c b => crcN 8 (c ^^^ b.toNat)) (crcT l) := by
    unfold sealed crcT
    rw [List.foldl_append]
  rw [h, fold_num, num_sumB (crc_lt l)]
  unfold crc
  rw [← Nat.xor_assoc, Nat.xor_self, Nat.zero_xor]
  rfl
def Sealed (l : List UInt8) : Prop := ∃ m, l = sealed m
theorem sealed_len (m : List UInt8) : (sealed m).length = m.length + 4 := by unfold sealed; simp [sumB]
theorem sealed_inj {m m' : List UInt8} (h : sealed m = sealed m') : m = m' := by
  have hl := congrArg List.length h
  rw [sealed_len, sealed_len] at hl
  unfold sealed at h
  exact (List.append_inj h (by omega)).1
/-- THE LAW: sealed bytes of one length that part by a burst of at most 32 bits are one. -/
theorem burst {l l' : List UInt8} (h : Sealed l) (h' : Sealed l') (hl : l.length = l'.length) {k P : Nat} (hP : P < 4294967296) (hk : k ≤ 8 * l.length) (hd : num l ^^^ num l' = 2 ^ k * P) : P = 0 := by
  obtain ⟨m, rfl⟩ := h
  obtain ⟨m', rfl⟩ := h'
  have e1 := crcT_sealed m
  have e2 := crcT_sealed m'
  unfold crcT at e1 e2
  rw [fold_num] at e1 e2
  rw [← hl] at e2
  have e3 : crcN (8 * (sealed m).length) (num (sealed m) ^^^ num (sealed m')) = 0 := by
    have : num (sealed m) ^^^ num (sealed m') = (4294967295 ^^^ num (sealed m)) ^^^ (4294967295 ^^^ num (sealed m')) := by
      rw [Nat.xor_comm 4294967295 (num (sealed m)), Nat.xor_assoc, ← Nat.xor_assoc 4294967295, Nat.xor_self, Nat.zero_xor]
    rw [this, crcN_xor, e1, e2, Nat.xor_self]
  rw [hd, show 8 * (sealed m).length = (8 * (sealed m).length - k) + k from by omega, crcN_add, crcN_shift] at e3
  exact crcN_zero hP _ e3
theorem num_inj : ∀ {l l' : List UInt8}, l.length = l'.length → num l = num l' → l = l'
  | [], [], _, _ => rfl
  | [], _ :: _, h, _ => by simp at h
  | _ :: _, [], h, _ => by simp at h
  | a :: l, b :: l', h, e => by
    have ha : a.toNat < 256 := a.toNat_lt
    have hb : b.toNat < 256 := b.toNat_lt
    simp only [num] at e
    rw [num_inj (l := l) (l' := l') (by simpa using h) (by omega), UInt8.toNat_inj.1 (show a.toNat = b.toNat by omega)]
theorem mul256_xor (a b : Nat) : 256 * (a ^^^ b) = 256 * a ^^^ 256 * b := by
  have h : ∀ x : Nat, 256 * x = x <<< 8 := fun x => by rw [Nat.shiftLeft_eq]; omega
  rw [h, h, h, Nat.shiftLeft_xor_distrib]
/-- A bit turned. -/
theorem num_turn : ∀ (l : List UInt8) (j t : Nat) (x : UInt8), j < l.length → t < 8 → x.toNat = (l.getD j 0).toNat ^^^ 2 ^ t → num (l.set j x) = num l ^^^ 2 ^ (8 * j + t)
  | [], j, t, x, h, _, _ => by simp at h
  | b :: l, 0, t, x, _, ht, hx => by
    have hb : b.toNat < 256 := b.toNat_lt
    have hxb : x.toNat < 256 := x.toNat_lt
    simp only [List.set_cons_zero, num]
    rw [add_xor256 hxb, add_xor256 hb, hx]
    simp only [List.getD_cons_zero, Nat.mul_zero, Nat.zero_add]
    rw [Nat.xor_assoc, Nat.xor_assoc, Nat.xor_comm (2 ^ t)]
  | b :: l, j + 1, t, x, h, ht, hx => by
    have hb : b.toNat < 256 := b.toNat_lt
    simp only [List.set_cons_succ, num]
    rw [num_turn l j t x (by simpa using h) ht (by simpa using hx), add_xor256 hb, mul256_xor, add_xor256 hb, ← Nat.xor_assoc]
    congr 1
    rw [show 8 * (j + 1) + t = 8 + (8 * j + t) from by omega, Nat.pow_add 2 8]
/-- The first i bits of a pattern. -/
theorem low_succ (p i : Nat) : p % 2 ^ (i + 1) = if p / 2 ^ i % 2 = 1 then p % 2 ^ i ^^^ 2 ^ i else p % 2 ^ i := by
  have hlt : p % 2 ^ i < 2 ^ i := Nat.mod_lt _ (Nat.two_pow_pos i)
  apply Nat.eq_of_testBit_eq
  intro q
  rw [Nat.testBit_mod_two_pow]
  have hbit : (p / 2 ^ i % 2 = 1) ↔ p.testBit i = true := by
    rw [Nat.testBit_eq_decide_div_mod_eq]; simp
  split
  · rename_i h
    rw [hbit] at h
    rw [Nat.testBit_xor, Nat.testBit_mod_two_pow, Nat.testBit_two_pow]
    by_cases hq : q < i
    · have h1 : ¬ i = q := by omega
      simp [hq, h1, show q < i + 1 from by omega]
    · by_cases hq2 : q = i
      · subst hq2; simp [h]
      · have h1 : ¬ i = q := fun e => hq2 e.symm
        simp [hq, h1, show ¬ q < i + 1 from by omega]
  · rename_i h
    rw [hbit] at h
    rw [Nat.testBit_mod_two_pow]
    by_cases hq : q < i
    · simp [hq, show q < i + 1 from by omega]
    · by_cases hq2 : q = i
      · subst hq2; simp [h]
      · simp [hq, show ¬ q < i + 1 from by omega]
theorem mul_xor_pow (k a b : Nat) : 2 ^ k * (a ^^^ b) = 2 ^ k * a ^^^ 2 ^ k * b := by
  have h : ∀ x : Nat, 2 ^ k * x = x <<< k := fun x => by rw [Nat.shiftLeft_eq, Nat.mul_comm]
  rw [h, h, h, Nat.shiftLeft_xor_distrib]
end Go.Proofs.Ytoojnpafcdaflaa
