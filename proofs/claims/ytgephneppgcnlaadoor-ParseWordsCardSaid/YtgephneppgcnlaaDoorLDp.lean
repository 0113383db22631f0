/- ParseDeep: the walk. -/
import Derived.Test.YtgephneppgcnlaaDoorPaw
namespace Go.Proofs.YtgephneppgcnlaaDoor
open Go Go.RowKit
set_option linter.unusedVariables false
set_option linter.unusedSimpArgs false

theorem u8_bd {n : Int} (h : (Lit.int .u8 n).wf = true) : 0 ≤ n ∧ n ≤ 255 := by
  simp [Lit.wf, IntKind.min, IntKind.max, IntKind.signed, IntKind.bits] at h; omega
theorem rep_len (s : List UInt8) : ∀ k, (rep s k).length = k * s.length
  | 0 => by simp [rep]
  | k + 1 => by rw [rep, List.length_append, rep_len s k, Nat.succ_mul]
theorem rep_succ (s : List UInt8) (k : Nat) : (⟨(rep s k).toArray⟩ : ByteArray) ++ ⟨s.toArray⟩ = ⟨(rep s (k + 1)).toArray⟩ := by
  rw [bytes_append]; rfl
theorem deepT_len {k : Nat} (hk : k ≤ 30) (list : Bool) : (deepT k list).length ≤ maxLen := by
  unfold deepT maxLen
  split <;> simp [rep_len] <;> omega
set_option maxRecDepth 100000 in
set_option maxHeartbeats 8000000 in
theorem deep_walk (n : Int) (list : Bool) (w : World) (hw : (Lit.int .u8 n).wf = true) : Calls Tryd.prog 5 #[.int .u8 n, .bool list] w fun e w' => e = .returned (.bool true) ∧ Below w.heap.size w w' := by
  have A := Lib.hid (awake06 w)
  obtain ⟨h0, h1⟩ := u8_bd hw
  obtain ⟨k, hk1, hk2, hke⟩ : ∃ k : Nat, 1 ≤ k ∧ k ≤ 30 ∧ 1 + n % 30 = (k : Int) := by
    refine ⟨(1 + n % 30).toNat, ?_, ?_, ?_⟩
    all_goals omega
  have HKE := Lib.hid hke
  clear hw hke
  cases list with
  | true =>
    go_enter Tryd.func5, Tryd.ntmps5
    go_wp2_with fail
    refine A.out.mono ?_
    rintro e w1 ⟨rfl, O1⟩
    have HO1 := Lib.hid O1; clear O1 A
    go_wp2_with fail
    rw [HKE.out]
    go_loopw [6, 7, 8] (fun s t x wr => ∃ j : Nat, x = .int .i64 (j : Int) ∧ j ≤ k ∧ s = .string ⟨(rep [91] j).toArray⟩ ∧ t = .string ⟨(rep [93] j).toArray⟩ ∧ wr = w1) (fun _ _ x _ => k - (intOf x).toNat)
    case atStart => exact ⟨0, rfl, by omega, rfl, rfl, rfl⟩
    case round =>
      obtain ⟨j, rfl, hj, rfl, rfl, rfl⟩ := hrel
      by_cases hlt : j < k
      · have t1 : decide ((j : Int) < (k : Int)) = true := decide_eq_true (by omega)
        have HS := Lib.hid (rep_succ [91] j); have HT := Lib.hid (rep_succ [93] j)
        have hl1 : (rep [91] j).length ≤ 60 := by rw [rep_len]; simp; omega
        have hl2 : (rep [93] j).length ≤ 60 := by rw [rep_len]; simp; omega
        generalize hA : rep [91] j = aj at *
        generalize hB : rep [93] j = bj at *
        clear hA hB
        go_wp2_with fail
        go_roundw
        case rel => exact ⟨j + 1, by simp, by omega, by rw [← HS.out], by rw [← HT.out], by first | rfl | trivial⟩
        case measure => simp [intOf]; omega
      · have t1 : decide ((j : Int) < (k : Int)) = false := decide_eq_false (by omega)
        have hje : j = k := by omega
        subst hje
        have D := Lib.hid (document_any (deepT j true) wr (deepT_len hk2 _))
        have hB := deep_one hk1 hk2 true
        unfold deepB at hB
        have hs : ((⟨#[123, 97, 40, 98, 58]⟩ : ByteArray) ++ ⟨(rep [91] j).toArray⟩ ++ ⟨(rep [93] j).toArray⟩ ++ ⟨#[41, 125]⟩) = ⟨(deepT j true).toArray⟩ := by
          rw [show (⟨#[123, 97, 40, 98, 58]⟩ : ByteArray) = ⟨([123, 97, 40, 98, 58] : List UInt8).toArray⟩ from rfl, show (⟨#[41, 125]⟩ : ByteArray) = ⟨([41, 125] : List UInt8).toArray⟩ from rfl, bytes_append, bytes_append, bytes_append]; rfl
        rw [← hs] at D
        have hl1 : (rep [91] j).length ≤ 60 := by rw [rep_len]; simp; omega
        have hl2 : (rep [93] j).length ≤ 60 := by rw [rep_len]; simp; omega
        clear hs t1 hlt hj
        cases hd : docP (deepT j true) with
        | bad a e =>
          rw [hd] at D hB
          simp only [Bool.false_eq_true, if_true, if_false, Bool.and_eq_true, decide_eq_true_eq] at hB
          obtain ⟨rfl, t2, rfl⟩ := hB
          have t1 : decide ((j : Int) > 23) = true := decide_eq_true (by omega)
          have t3 : decide ((j : Int) > 24) = decide (24 < j) := by congr 1; apply propext; omega
          clear hd
          generalize hA : rep [91] j = aj at *
          generalize hC : rep [93] j = bj at *
          clear hA hC
          go_wp2_with fail
          refine D.out.mono ?_
          rintro e w3 ⟨rfl, O3⟩
          have HO3 := Lib.hid ((HO1.out.trans O3).alloc (.cells #[.slice none 0 0, .slice none 0 0] 26)); clear O3
          go_wp2_with fail
          go_ret
          exact ⟨rfl, HO3.out.below (Nat.le_refl _) (fun _ _ h => h)⟩
        | ok d =>
          rw [hd] at D hB
          simp only [Bool.false_eq_true, if_true, if_false, Bool.and_eq_true, decide_eq_true_eq] at hB
          have t1 : decide ((j : Int) > 23) = false := decide_eq_false (by omega)
          have t3 : decide ((j : Int) > 24) = false := decide_eq_false (by omega)
          clear hd
          generalize hA : rep [91] j = aj at *
          generalize hC : rep [93] j = bj at *
          clear hA hC
          go_wp2_with fail
          refine D.out.mono ?_
          rintro e w3 ⟨a1, c1, a2, c2, rfl, -, O3⟩
          have HO3 := Lib.hid ((HO1.out.trans O3).alloc (.cells #[.slice a1 d.ops.length c1, .slice a2 d.frags.length c2] 26)); clear O3
          go_wp2_with fail
          go_ret
          exact ⟨rfl, HO3.out.below (Nat.le_refl _) (fun _ _ h => h)⟩
  | false =>
    go_enter Tryd.func5, Tryd.ntmps5
    go_wp2_with fail
    refine A.out.mono ?_
    rintro e w1 ⟨rfl, O1⟩
    have HO1 := Lib.hid O1; clear O1 A
    go_wp2_with fail
    rw [HKE.out]
    go_loopw [6, 7, 8] (fun s t x wr => ∃ j : Nat, x = .int .i64 (j : Int) ∧ j ≤ k ∧ s = .string ⟨(rep [123, 97] j).toArray⟩ ∧ t = .string ⟨(rep [125] j).toArray⟩ ∧ wr = w1) (fun _ _ x _ => k - (intOf x).toNat)
    case atStart => exact ⟨0, rfl, by omega, rfl, rfl, rfl⟩
    case round =>
      obtain ⟨j, rfl, hj, rfl, rfl, rfl⟩ := hrel
      by_cases hlt : j < k
      · have t1 : decide ((j : Int) < (k : Int)) = true := decide_eq_true (by omega)
        have HS := Lib.hid (rep_succ [123, 97] j); have HT := Lib.hid (rep_succ [125] j)
        have hl1 : (rep [123, 97] j).length ≤ 60 := by rw [rep_len]; simp; omega
        have hl2 : (rep [125] j).length ≤ 60 := by rw [rep_len]; simp; omega
        generalize hA : rep [123, 97] j = aj at *
        generalize hB : rep [125] j = bj at *
        clear hA hB
        go_wp2_with fail
        go_roundw
        case rel => exact ⟨j + 1, by simp, by omega, by rw [← HS.out], by rw [← HT.out], by first | rfl | trivial⟩
        case measure => simp [intOf]; omega
      · have t1 : decide ((j : Int) < (k : Int)) = false := decide_eq_false (by omega)
        have hje : j = k := by omega
        subst hje
        have D := Lib.hid (document_any (deepT j false) wr (deepT_len hk2 _))
        have hB := deep_one hk1 hk2 false
        unfold deepB at hB
        have hs : ((⟨(rep [123, 97] j).toArray⟩ : ByteArray) ++ ⟨(rep [125] j).toArray⟩) = ⟨(deepT j false).toArray⟩ := by
          rw [bytes_append]; rfl
        rw [← hs] at D
        have hl1 : (rep [123, 97] j).length ≤ 60 := by rw [rep_len]; simp; omega
        have hl2 : (rep [125] j).length ≤ 60 := by rw [rep_len]; simp; omega
        clear hs t1 hlt hj
        cases hd : docP (deepT j false) with
        | bad a e =>
          rw [hd] at D hB
          simp only [Bool.false_eq_true, if_true, if_false, Bool.and_eq_true, decide_eq_true_eq] at hB
          obtain ⟨rfl, t2, rfl⟩ := hB
          have t1 : decide ((j : Int) > 24) = true := decide_eq_true (by omega)
          have t3 : decide ((j : Int) > 24) = decide (24 < j) := by congr 1; apply propext; omega
          clear hd
          generalize hA : rep [123, 97] j = aj at *
          generalize hC : rep [125] j = bj at *
          clear hA hC
          go_wp2_with fail
          refine D.out.mono ?_
          rintro e w3 ⟨rfl, O3⟩
          have HO3 := Lib.hid ((HO1.out.trans O3).alloc (.cells #[.slice none 0 0, .slice none 0 0] 26)); clear O3
          go_wp2_with fail
          go_ret
          exact ⟨rfl, HO3.out.below (Nat.le_refl _) (fun _ _ h => h)⟩
        | ok d =>
          rw [hd] at D hB
          simp only [Bool.false_eq_true, if_true, if_false, Bool.and_eq_true, decide_eq_true_eq] at hB
          have t1 : decide ((j : Int) > 24) = false := decide_eq_false (by omega)
          have t3 : decide ((j : Int) > 24) = false := decide_eq_false (by omega)
          clear hd
          generalize hA : rep [123, 97] j = aj at *
          generalize hC : rep [125] j = bj at *
          clear hA hC
          go_wp2_with fail
          refine D.out.mono ?_
          rintro e w3 ⟨a1, c1, a2, c2, rfl, -, O3⟩
          have HO3 := Lib.hid ((HO1.out.trans O3).alloc (.cells #[.slice a1 d.ops.length c1, .slice a2 d.frags.length c2] 26)); clear O3
          go_wp2_with fail
          go_ret
          exact ⟨rfl, HO3.out.below (Nat.le_refl _) (fun _ _ h => h)⟩
end Go.Proofs.YtgephneppgcnlaaDoor
