/- columbarylaw17.LinkWaits: the walk. -/
import Derived.Test.YtalikihdckknoaaLinkA
namespace Go.Proofs.Ytalikihdckknoaa
open Go Go.RowKit
set_option linter.unusedVariables false
set_option linter.unusedSimpArgs false

set_option maxRecDepth 100000 in
set_option maxHeartbeats 2000000 in
theorem waits (a0 a1 a2 : Int) (w : World) (w0 : (Lit.int .u8 a0).wf = true) (w1 : (Lit.int .u16 a1).wf = true) (w2 : (Lit.int .u16 a2).wf = true) :
    Calls Try.prog 4 #[.int .u8 a0, .int .u16 a1, .int .u16 a2] w fun e w' => e = .returned (.bool true) ∧ Below w.heap.size w w' := by
  have b0 : 0 ≤ a0 ∧ a0 ≤ 255 := by simp [Lit.wf, IntKind.min, IntKind.max, IntKind.signed, IntKind.bits] at w0; omega
  have b1 : 0 ≤ a1 ∧ a1 ≤ 65535 := by simp [Lit.wf, IntKind.min, IntKind.max, IntKind.signed, IntKind.bits] at w1; omega
  have b2 : 0 ≤ a2 ∧ a2 ≤ 65535 := by simp [Lit.wf, IntKind.min, IntKind.max, IntKind.signed, IntKind.bits] at w2; omega
  clear w0 w1 w2
  go_enter Try.func4, Try.ntmps4
  go_wp2_with fail
  refine (awake_true _).mono ?_
  rintro e w1 ⟨rfl, hb1⟩
  go_wp2_with fail
  have hkb : 0 ≤ a0 % 50 ∧ a0 % 50 < 50 := by omega
  have hnb : 0 ≤ a1 % 500 ∧ a1 % 500 < 500 := by omega
  refine (newTimer_yes (1 + a0 % 50) 1000 _ (by omega) (by omega) (by omega) (by omega)).mono ?_
  rintro e w2 ⟨rfl, hT, hb2, hz⟩
  generalize hL : 1 + a0 % 50 = L at *
  obtain ⟨hL1, hL2⟩ : 1 ≤ L ∧ L ≤ 50 := by omega
  clear hL hkb b0
  go_wp2
  go_loopw [10, 11, 12] (fun x y i wr => ∃ X W I : Int, i = .int .i64 I ∧ x = .int .i64 X ∧ y = .int .i64 W ∧ 1 ≤ I ∧ I ≤ a1 % 500 + 1 ∧ I ≤ X ∧ X ≤ I - 1 + W ∧ 1 ≤ W ∧ W ≤ L ∧ TimerAt wr w1.heap.size L 1000 W (I - 1 - X + W) ∧ Below w.heap.size w wr) (fun x y i wr => 501 - (intOf i).toNat)
  case atStart => exact ⟨1, 1, 1, rfl, rfl, rfl, by omega, by omega, by omega, by omega, by omega, by omega, hT, hb1.trans (hb2.mono hb1.size)⟩
  case round =>
    obtain ⟨X, W, I, rfl, rfl, rfl, hI1, hI2, hX1, hX2, hW1, hW2, hT, hb⟩ := hrel
    have hs : w1.heap.size < wr.heap.size := hT.lt
    have hsz := hb1.size
    have e1 : ∀ Y V : Int, I - 1 - X + W = Y → TimerAt wr w1.heap.size L 1000 W Y := by rintro Y V rfl; exact hT
    by_cases hlt : I ≤ a1 % 500
    · by_cases hn : I < X
      · have hc := tick_any w1.heap.size L 1000 W (I - 1 - X + W) true wr hT (by omega) (by omega) (by omega)
        unfold tickW tickN at hc
        rw [tick_no (by simp; omega)] at hc
        have HCt := Lib.hid hc; clear hc
        have hne : (I == X) = false := by simp; omega
        clear e1
        go_wp2_with fail
        refine HCt.out.mono ?_
        rintro e w3 ⟨rfl, hT3, ho⟩
        go_wp2
        go_roundw
        case rel =>
          refine ⟨X, W, I + 1, rfl, rfl, rfl, by omega, by omega, by omega, by omega, by omega, by omega, ?_, hb.trans (ho.below (by omega) (by intro j hj; omega))⟩
          simp only [Bool.false_eq_true, if_false] at hT3
          rw [show I + 1 - 1 - X + W = I - 1 - X + W + 1 from by omega]
          exact hT3
        case measure => simp [intOf]; omega
      · obtain rfl : X = I := by omega
        have hc := tick_any w1.heap.size L 1000 W (X - 1 - X + W) true wr hT (by omega) (by omega) (by omega)
        unfold tickW tickN at hc
        rw [tick_yes (by simp; omega)] at hc
        have HCt := Lib.hid hc; clear hc
        have hee : (X == X) = true := by simp
        clear e1
        by_cases hh : X = a2 % 500
        · have hh' : (X == a2 % 500) = true := by simp [hh]
          have HH := Lib.hid hh; clear hh
          by_cases h2W : L < 2 * W
          all_goals
            go_wp2_with fail
            refine HCt.out.mono ?_
            rintro e w3 ⟨rfl, hT3, ho⟩
            go_wp2_with fail
            refine (heard_any _ _ _ _ _ _ hT3).mono ?_
            rintro e w4 ⟨rfl, hT4, ho4⟩
            go_wp2
            go_roundw
            case rel =>
              refine ⟨X + 1, 1, X + 1, rfl, rfl, rfl, by omega, by omega, by omega, by omega, by omega, by omega, ?_, hb.trans ((ho.trans ho4).below (by omega) (by intro j hj; omega))⟩
              simp only [if_true] at hT4
              rw [show X + 1 - 1 - (X + 1) + 1 = 0 from by omega]
              exact hT4
            case measure => simp [intOf]; omega
        · have hh' : (X == a2 % 500) = false := by simp; exact hh
          clear hh
          by_cases h2W : L < 2 * W
          all_goals
            go_wp2_with fail
            refine HCt.out.mono ?_
            rintro e w3 ⟨rfl, hT3, ho⟩
            simp only [if_true] at hT3
            first | rw [show min (2 * W) L = L from by omega] at hT3 | rw [show min (2 * W) L = 2 * W from by omega] at hT3
            go_wp2
            go_roundw
            case rel =>
              refine ⟨_, _, X + 1, rfl, rfl, rfl, by omega, by omega, by omega, by omega, by omega, by omega, ?_, hb.trans (ho.below (by omega) (by intro j hj; omega))⟩
              first | rw [show X + 1 - 1 - (X + L) + L = 0 from by omega] | rw [show X + 1 - 1 - (X + 2 * W) + 2 * W = 0 from by omega]
              exact hT3
            case measure => simp [intOf]; omega
    · clear e1
      go_wp2
      go_ret
      exact ⟨rfl, hb⟩
end Go.Proofs.Ytalikihdckknoaa
