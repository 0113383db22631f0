/- Letters, digits, blanks, and runs of them: the program's and the document's. -/
import Derived.Test.YtgephneppgcnlaaGreatDoorKit
import Derived.Test.YtgephneppgcnlaaGreatDoorProg
import Derived.Test.YtgephneppgcnlaaGreatDoorTkA
import Derived.Lib.Bytealg
namespace Go.Proofs.YtgephneppgcnlaaGreatDoor
open Go Go.RowKit
set_option linter.unusedVariables false
set_option linter.unusedSimpArgs false

/-- The test f, called at any byte, answers as b. -/
def Tests (f : FuncId) (b : UInt8 → Bool) : Prop := ∀ (u : UInt8) (w : World), Calls Tryz.prog f #[.int .u8 (u.toNat : Int)] w fun e w' => e = .returned (.bool (b u)) ∧ w' = w
theorem u8_lt (u : UInt8) : (u.toNat : Int) < 256 := by have := u.toNat_lt; omega
theorem u8_ge (u : UInt8) : (0 : Int) ≤ (u.toNat : Int) := by omega
theorem u8_all {p : UInt8 → Prop} (h : ∀ n : Fin 256, p (UInt8.ofNat n.val)) (u : UInt8) : p u := by
  have := h ⟨u.toNat, by have := u.toNat_lt; omega⟩
  simpa using this
theorem or32 (u : UInt8) : bits .or .u8 (u.toNat : Int) 32 = ((u.toNat ||| 32 : Nat) : Int) := by
  revert u; refine u8_all ?_; decide +kernel
theorem letB_or (u : UInt8) : letB u = (decide (u.toNat = 95) || (decide (97 ≤ u.toNat ||| 32) && decide (u.toNat ||| 32 ≤ 122))) := by
  revert u; refine u8_all ?_; decide +kernel
set_option maxRecDepth 100000 in
theorem digit_any : Tests 42 digB := by
  intro u w
  have h1 := u8_lt u; have h2 := u8_ge u
  have e : ∀ a b : Bool, a = decide ((48 : Int) ≤ (u.toNat : Int)) → b = decide ((u.toNat : Int) ≤ 57) → (a && b) = digB u := by
    rintro _ _ rfl rfl; unfold digB; congr 1 <;> (apply decide_eq_decide.2; omega)
  have E := Lib.hid e; clear e
  obtain ⟨n, hn⟩ : ∃ n : Int, (u.toNat : Int) = n := ⟨_, rfl⟩
  rw [hn] at h1 h2 ⊢
  have HN := Lib.hid hn; clear hn
  by_cases h3 : 48 ≤ n <;> by_cases h4 : n ≤ 57 <;> (
    go_enter Tryz.func42, Tryz.ntmps42
    go_wp2
    go_ret
    refine ⟨ret_bool ?_, rfl⟩
    rw [← E.out _ _ rfl rfl, HN.out]
    simp [h3, h4])
set_option maxRecDepth 100000 in
theorem rdigit_any : Tests 50 digB := by
  intro u w
  have h1 := u8_lt u; have h2 := u8_ge u
  have e : ∀ a b : Bool, a = decide ((48 : Int) ≤ (u.toNat : Int)) → b = decide ((u.toNat : Int) ≤ 57) → (a && b) = digB u := by
    rintro _ _ rfl rfl; unfold digB; congr 1 <;> (apply decide_eq_decide.2; omega)
  have E := Lib.hid e; clear e
  obtain ⟨n, hn⟩ : ∃ n : Int, (u.toNat : Int) = n := ⟨_, rfl⟩
  rw [hn] at h1 h2 ⊢
  have HN := Lib.hid hn; clear hn
  by_cases h3 : 48 ≤ n <;> by_cases h4 : n ≤ 57 <;> (
    go_enter Tryz.func50, Tryz.ntmps50
    go_wp2
    go_ret
    refine ⟨ret_bool ?_, rfl⟩
    rw [← E.out _ _ rfl rfl, HN.out]
    simp [h3, h4])
set_option maxRecDepth 100000 in
theorem letter_any : Tests 40 letB := by
  intro u w
  have h1 := u8_lt u; have h2 := u8_ge u
  have e : ∀ a b c : Bool, a = decide ((u.toNat : Int) = 95) → b = decide (97 ≤ ((u.toNat ||| 32 : Nat) : Int)) → c = decide (((u.toNat ||| 32 : Nat) : Int) ≤ 122) → (a || (b && c)) = letB u := by
    rintro _ _ _ rfl rfl rfl; rw [letB_or]; congr 1
    · apply decide_eq_decide.2; omega
    · congr 1 <;> (apply decide_eq_decide.2; omega)
  have ho := or32 u
  have hm : ((u.toNat ||| 32 : Nat) : Int) < 256 := by
    have : u.toNat ||| 32 < 2 ^ 8 := Nat.or_lt_two_pow (by have := u.toNat_lt; omega) (by decide)
    omega
  have E := Lib.hid e; clear e
  obtain ⟨m, hmm⟩ : ∃ m : Int, ((u.toNat ||| 32 : Nat) : Int) = m := ⟨_, rfl⟩
  have hm0 : 0 ≤ m := by omega
  obtain ⟨n, hn⟩ : ∃ n : Int, (u.toNat : Int) = n := ⟨_, rfl⟩
  rw [hn] at h1 h2 ho ⊢
  rw [hmm] at ho hm
  have HN := Lib.hid hn; have HM := Lib.hid hmm; clear hn hmm
  by_cases h5 : n = 95
  · have t1 : decide (n = 95) = true := decide_eq_true h5
    by_cases h3 : 97 ≤ m <;> by_cases h4 : m ≤ 122 <;> (
      go_enter Tryz.func40, Tryz.ntmps40
      go_wp2
      go_ret
      refine ⟨ret_bool ?_, rfl⟩
      rw [← E.out _ _ _ rfl rfl rfl, HN.out, HM.out]
      simp [h3, h4, h5])
  · have t1 : decide (n = 95) = false := decide_eq_false h5
    by_cases h3 : 97 ≤ m <;> by_cases h4 : m ≤ 122 <;> (
      go_enter Tryz.func40, Tryz.ntmps40
      go_wp2
      go_ret
      refine ⟨ret_bool ?_, rfl⟩
      rw [← E.out _ _ _ rfl rfl rfl, HN.out, HM.out]
      have hb : (n == 95) = false := by simpa using h5
      first | (simp [h3, h4, h5, hb]; done) | (simp [h3, h4, h5, hb]; omega))
set_option maxRecDepth 100000 in
theorem line_any : Tests 17 lineB := by
  intro u w
  have h1 := u8_lt u; have h2 := u8_ge u
  have e : ∀ a : Bool, a = decide ((u.toNat : Int) = 10) → (!a) = lineB u := by
    rintro _ rfl; unfold lineB; congr 1; apply decide_eq_decide.2; omega
  have E := Lib.hid e; clear e
  obtain ⟨n, hn⟩ : ∃ n : Int, (u.toNat : Int) = n := ⟨_, rfl⟩
  rw [hn] at h1 h2 ⊢
  have HN := Lib.hid hn; clear hn
  by_cases h3 : n = 10 <;> (
    go_enter Tryz.func17, Tryz.ntmps17
    go_wp2
    go_ret
    refine ⟨ret_bool ?_, rfl⟩
    rw [← E.out _ rfl, HN.out]
    simp [h3])
set_option maxRecDepth 100000 in
theorem ld_any : Tests 41 ldB := by
  intro u w
  have H1 := Lib.hid (letter_any u w)
  have H2 := Lib.hid (digit_any u w)
  have e : ∀ a b : Bool, a = letB u → b = digB u → (a || b) = ldB u := by rintro _ _ rfl rfl; rfl
  have E := Lib.hid e; clear e
  obtain ⟨a, ha⟩ : ∃ a, letB u = a := ⟨_, rfl⟩
  obtain ⟨b, hb⟩ : ∃ b, digB u = b := ⟨_, rfl⟩
  rw [ha] at H1 E; rw [hb] at H2 E
  clear ha hb
  have h1 := u8_lt u; have h2 := u8_ge u
  generalize (u.toNat : Int) = n at *
  cases a <;> (
    go_enter Tryz.func41, Tryz.ntmps41
    go_wp2_with fail
    refine H1.out.mono ?_
    rintro e w1 ⟨rfl, rfl⟩
    go_wp2_with fail
    try (
      refine H2.out.mono ?_
      rintro e w2 ⟨rfl, rfl⟩
      go_wp2)
    go_ret
    refine ⟨ret_bool ?_, rfl⟩
    rw [← E.out _ _ rfl rfl]
    rfl)
theorem letB_cmp (u : UInt8) (n : Int) (hn : (u.toNat : Int) = n) (a b c d e : Bool) (ha : a = decide (97 ≤ n)) (hb : b = decide (n ≤ 122)) (hc : c = decide (65 ≤ n)) (hd : d = decide (n ≤ 90)) (he : e = decide (n = 95)) : ((a && b) || (c && d) || e) = letB u := by
  subst ha hb hc hd he hn
  unfold letB
  congr 1
  · congr 1 <;> congr 1 <;> (apply decide_eq_decide.2; omega)
  · apply decide_eq_decide.2; omega
set_option maxRecDepth 100000 in
set_option maxHeartbeats 2000000 in
theorem rletter_any : Tests 49 letB := by
  intro u w
  have h1 := u8_lt u; have h2 := u8_ge u
  obtain ⟨n, hn⟩ : ∃ n : Int, (u.toNat : Int) = n := ⟨_, rfl⟩
  rw [hn] at h1 h2 ⊢
  have E := Lib.hid (letB_cmp u n hn); clear hn
  have key : n < 65 ∨ (65 ≤ n ∧ n ≤ 90) ∨ (90 < n ∧ n < 95) ∨ n = 95 ∨ n = 96 ∨ (97 ≤ n ∧ n ≤ 122) ∨ 122 < n := by omega
  rcases key with h | ⟨h, h'⟩ | ⟨h, h'⟩ | h | h | ⟨h, h'⟩ | h
  all_goals (
    have t1 : decide (97 ≤ n) = decide (97 ≤ n) := rfl
    rw [← E.out _ _ _ _ _ rfl rfl rfl rfl rfl]
    first
      | (rw [show decide (97 ≤ n) = true from decide_eq_true (by omega)])
      | (rw [show decide (97 ≤ n) = false from decide_eq_false (by omega)])
    first
      | (rw [show decide (n ≤ 122) = true from decide_eq_true (by omega)])
      | (rw [show decide (n ≤ 122) = false from decide_eq_false (by omega)])
    first
      | (rw [show decide (65 ≤ n) = true from decide_eq_true (by omega)])
      | (rw [show decide (65 ≤ n) = false from decide_eq_false (by omega)])
    first
      | (rw [show decide (n ≤ 90) = true from decide_eq_true (by omega)])
      | (rw [show decide (n ≤ 90) = false from decide_eq_false (by omega)])
    first
      | (rw [show decide (n = 95) = true from decide_eq_true (by omega)])
      | (rw [show decide (n = 95) = false from decide_eq_false (by omega)])
    clear E t1
    go_enter Tryz.func49, Tryz.ntmps49
    go_wp2
    go_ret
    refine ⟨ret_bool ?_, rfl⟩
    first | rfl | (simp; done) | (simp; omega))
end Go.Proofs.YtgephneppgcnlaaGreatDoor
