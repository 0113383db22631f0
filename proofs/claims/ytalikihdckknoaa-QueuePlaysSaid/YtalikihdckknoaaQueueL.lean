/- columbarylaw04: awake, QueueNil, QueueFull: the walks. -/
import Derived.Test.YtalikihdckknoaaQueueI
import Derived.Test.YtalikihdckknoaaQueueS
namespace Go.Proofs.Ytalikihdckknoaa
open Go Go.RowKit
set_option linter.unusedVariables false
set_option linter.unusedSimpArgs false

set_option maxRecDepth 100000 in
theorem q_awake (w : World) : Calls Try.prog 15 #[] w fun e w' => e = .returned (.bool true) ∧ Below w.heap.size w w' := by
  go_enter Try.func15, Try.ntmps15
  go_wp2_with fail
  refine (QS.new_any 2 5 _ (by omega) (by omega)).mono ?_
  rintro e w1 ⟨b, c, rfl, hA, hb, h1, h2⟩
  go_wp2_with fail
  refine (QS.put_room (.string ⟨#[97]⟩) b c 2 5 [] _ hA (by simp) (by omega) (by omega)).mono ?_
  rintro e w2 ⟨he, hA2, hO2⟩
  rw [show (((5 : Nat) : Int) + ([] : List Value).length + 1) = 6 from rfl] at he
  subst he
  go_wp2_with fail
  refine (QS.put_room (.string ⟨#[98]⟩) b c 2 5 _ _ hA2 (by simp) (by omega) (by omega)).mono ?_
  rintro e w3 ⟨he, hA3, hO3⟩
  rw [show (((5 : Nat) : Int) + ([] ++ [Value.string ⟨#[97]⟩] : List Value).length + 1) = 7 from rfl] at he
  subst he
  go_wp2_with fail
  refine (QS.put_full (.string ⟨#[99]⟩) b c 2 5 _ _ hA3 (by simp)).mono ?_
  rintro e w4 ⟨rfl, rfl⟩
  go_wp2_with fail
  refine (QS.drop_ok b c 2 5 6 _ _ hA3 (by simp) (by omega) (by omega) (by simp)).mono ?_
  rintro e w5 ⟨he, hA5, hO5⟩
  rw [show (((6 - ((5 : Nat) : Int)).toNat : Nat) : Int) = 1 from rfl] at he
  subst he
  go_wp2
  go_ret
  have ho : Only (fun k => k = b ∨ k = c) w1 w5 := ((hO2.mono (fun _ _ h => .inr h)).trans (hO3.mono (fun _ _ h => .inr h))).trans hO5
  exact ⟨rfl, hb.trans (ho.below hb.size (by intro k hk; omega))⟩

set_option maxRecDepth 100000 in
theorem queueNil (n : Int) (w : World) (_ : (Lit.int .u64 n).wf = true) :
    Calls Try.prog 10 #[.int .u64 n] w fun e w' => e = .returned (.bool true) ∧ Below w.heap.size w w' := by
  go_enter Try.func10, Try.ntmps10
  go_wp2_with fail
  refine (QI.put_nil _ _).mono ?_
  rintro e w1 ⟨rfl, rfl⟩
  go_wp2_with fail
  refine (QI.take_nil _).mono ?_
  rintro e w1 ⟨rfl, rfl⟩
  go_wp2_with fail
  refine (QI.drop_nil _ _).mono ?_
  rintro e w1 ⟨rfl, rfl⟩
  go_wp2_with fail
  refine (q_awake _).mono ?_
  rintro e w1 ⟨rfl, hb⟩
  go_wp2_with fail
  refine (QI.len_nil _).mono ?_
  rintro e w2 ⟨rfl, rfl⟩
  go_wp2_with fail
  refine (QI.gone_nil _).mono ?_
  rintro e w2 ⟨rfl, rfl⟩
  go_wp2_with fail
  refine (QI.all_nil _).mono ?_
  rintro e w2 ⟨rfl, rfl⟩
  go_wp2
  go_ret
  exact ⟨rfl, hb⟩

set_option maxRecDepth 100000 in
set_option maxHeartbeats 1000000 in
theorem queueFull (a0 a1 : Int) (w : World) (w0 : (Lit.int .u8 a0).wf = true) (w1 : (Lit.int .u8 a1).wf = true) :
    Calls Try.prog 7 #[.int .u8 a0, .int .u8 a1] w fun e w' => e = .returned (.bool true) ∧ Below w.heap.size w w' := by
  have b0 : 0 ≤ a0 ∧ a0 ≤ 255 := by simp [Lit.wf, IntKind.min, IntKind.max, IntKind.signed, IntKind.bits] at w0; omega
  have b1 : 0 ≤ a1 ∧ a1 ≤ 255 := by simp [Lit.wf, IntKind.min, IntKind.max, IntKind.signed, IntKind.bits] at w1; omega
  clear w0 w1
  obtain ⟨n, hn⟩ : ∃ n : Nat, (n : Int) = 1 + a0 % 64 := ⟨(1 + a0 % 64).toNat, by omega⟩
  obtain ⟨k, hk⟩ : ∃ k : Nat, (k : Int) = a1 % (1 + a0 % 64 + 1) := ⟨(a1 % (1 + a0 % 64 + 1)).toNat, by have : 0 ≤ a1 % (1 + a0 % 64 + 1) := Int.emod_nonneg _ (by omega); omega⟩
  have hn1 : 1 ≤ n ∧ n ≤ 64 := by omega
  have hk1 : k ≤ n := by have := Int.emod_lt_of_pos a1 (show 0 < 1 + a0 % 64 + 1 by omega); omega
  have hp : 0 < 1 + a0 % 64 + 1 := by omega
  have HN := Lib.hid hn; have HK := Lib.hid hk; clear hn hk
  go_enter Try.func7, Try.ntmps7
  go_wp2_with fail
  refine (q_awake _).mono ?_
  rintro e w1 ⟨rfl, hb1⟩
  go_wp2_with fail
  rw [← HN.out]
  have hk2 : a1 % ((n : Int) + 1) = k := by rw [HN.out]; exact HK.out.symm
  rw [hk2]
  clear hk2
  refine (QI.new_any n 0 _ (by omega) (by omega)).mono ?_
  rintro e w2 ⟨b, c, rfl, hA, hb2, hgb, hgc⟩
  go_wp2
  go_loopw [9] (fun i wr => ∃ j : Nat, ∃ l : List Value, j ≤ n ∧ l.length = j ∧ i = .int .i64 j ∧ QI.At wr b c n 0 l ∧ Only (fun k => k = b ∨ k = c) w2 wr) (fun i wr => n - (intOf i).toNat)
  case atStart => exact ⟨0, [], by omega, rfl, rfl, hA, Only.refl _ _⟩
  case round =>
    obtain ⟨j, l, hj, hl, rfl, hA, hO⟩ := hrel
    have HL := Lib.hid hl; clear hl
    by_cases hlt : j < n
    · go_wp2_with fail
      refine (QI.put_room _ b c n 0 l _ hA (by rw [HL.out]; exact hlt) (by omega) (by omega)).mono ?_
      rintro e w3 ⟨rfl, hA3, hO3⟩
      have HA := Lib.hid hA3; clear hA3
      go_wp2
      go_roundw
      case rel => exact ⟨j + 1, _, by omega, by rw [List.length_append, HL.out]; rfl, by go_num, HA.out, hO.trans (hO3.mono (fun _ _ h => .inr h))⟩
      case measure => simp [intOf]; omega
    · obtain rfl : j = n := by omega
      go_wp2_with fail
      refine (QI.put_full _ b c j 0 l _ hA (by rw [HL.out]; exact Nat.le_refl _)).mono ?_
      rintro e w3 ⟨rfl, rfl⟩
      go_wp2
      go_loopw [14] (fun i wr => ∃ m : Nat, ∃ l : List Value, m ≤ k ∧ l.length + m = j ∧ i = .int .i64 m ∧ QI.At wr b c j m l ∧ Only (fun k => k = b ∨ k = c) w2 wr) (fun i wr => k - (intOf i).toNat)
      case atStart => exact ⟨0, l, by omega, HL.out, rfl, hA, hO⟩
      case round =>
        obtain ⟨m, l2, hm, hl2, rfl, hA, hO⟩ := hrel
        have HL2 := Lib.hid hl2; clear hl2
        by_cases hlt2 : m < k
        · obtain ⟨x, l3, hx⟩ : ∃ x l3, l2 = x :: l3 := by
            cases l2 with
            | nil => have := HL2.out; simp at this; omega
            | cons x l3 => exact ⟨x, l3, rfl⟩
          subst hx
          go_wp2_with fail
          refine (QI.take_some x b c j m l3 _ hA (by omega)).mono ?_
          rintro e w4 ⟨rfl, hA4, hO4⟩
          have HA := Lib.hid hA4; clear hA4
          go_wp2
          go_roundw
          case rel => exact ⟨m + 1, l3, by omega, by have := HL2.out; simp at this; omega, by go_num, HA.out, hO.trans hO4⟩
          case measure => simp [intOf]; omega
        · obtain rfl : m = k := by omega
          go_wp2
          go_loopw [15] (fun i wr => ∃ p : Nat, ∃ l : List Value, p ≤ m ∧ l.length + m = j + p ∧ i = .int .i64 p ∧ QI.At wr b c j m l ∧ Only (fun k => k = b ∨ k = c) w2 wr) (fun i wr => m - (intOf i).toNat)
          case atStart => exact ⟨0, l2, by omega, HL2.out, rfl, hA, hO⟩
          case round =>
            obtain ⟨p, l4, hp4, hl4, rfl, hA, hO⟩ := hrel
            have HL4 := Lib.hid hl4; clear hl4
            by_cases hlt3 : p < m
            · go_wp2_with fail
              refine (QI.put_room _ b c j m l4 _ hA (by have := HL4.out; omega) (by omega) (by omega)).mono ?_
              rintro e w5 ⟨rfl, hA5, hO5⟩
              have HA := Lib.hid hA5; clear hA5
              go_wp2
              go_roundw
              case rel => exact ⟨p + 1, _, by omega, by have := HL4.out; simp; omega, by go_num, HA.out, hO.trans (hO5.mono (fun _ _ h => .inr h))⟩
              case measure => simp [intOf]; omega
            · obtain rfl : p = m := by omega
              go_wp2_with fail
              refine (QI.put_full _ b c j p l4 _ hA (by have := HL4.out; omega)).mono ?_
              rintro e w5 ⟨rfl, rfl⟩
              go_wp2_with fail
              refine (QI.len_any b c j p l4 _ hA).mono ?_
              rintro e w5 ⟨rfl, rfl⟩
              rw [show (l4.length : Int) = j from by have := HL4.out; omega]
              go_wp2_with fail
              refine (QI.gone_any b c j p l4 _ hA).mono ?_
              rintro e w5 ⟨rfl, rfl⟩
              go_wp2
              go_ret
              exact ⟨ret_bool (by simp), hb1.trans ((hb2.mono hb1.size).trans (hO.below (by have := hb1.size; have := hb2.size; omega) (by intro k hk; have := hb1.size; omega)))⟩
end Go.Proofs.Ytalikihdckknoaa
