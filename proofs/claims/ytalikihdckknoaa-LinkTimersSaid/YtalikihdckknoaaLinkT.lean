/- columbarylaw17.LinkTimers: the walk. -/
import Derived.Test.YtalikihdckknoaaLinkA
namespace Go.Proofs.Ytalikihdckknoaa
open Go Go.RowKit
set_option linter.unusedVariables false
set_option linter.unusedSimpArgs false

theorem timers_no (L P : Int) (a2 : Option Addr) (len2 cap2 : Nat) (w : World) (h : L < 1 ∨ 1000 < L ∨ P < 1 ∨ 1000 < P) :
    Calls Try.prog 3 #[.int .i64 L, .int .i64 P, .slice a2 len2 cap2] w fun e w' => e = .returned (.bool true) ∧ Below w.heap.size w w' := by
  have HC := Lib.hid (fun W => newTimer_no L P W h)
  by_cases h1 : L < 1 <;> by_cases h2 : 1000 < L <;> by_cases h3 : P < 1 <;> by_cases h4 : 1000 < P
  all_goals first | (exfalso; omega) | skip
  all_goals
    clear h
    go_enter Try.func3, Try.ntmps3
    go_wp2_with fail
    refine (awake_true _).mono ?_
    rintro e w1 ⟨rfl, hb⟩
    go_wp2_with fail
    refine (HC.out _).mono ?_
    rintro e w2 ⟨rfl, rfl⟩
    go_wp2
    go_ret
    exact ⟨rfl, hb⟩

set_option maxRecDepth 100000 in
set_option maxHeartbeats 2000000 in
theorem timers_yes (L P : Int) (a2 : Option Addr) (len2 cap2 : Nat) (z2 : List Int) (w : World) (w2 : IsRow .u8 w a2 len2 cap2 z2) (h1 : ¬ L < 1) (h2 : ¬ 1000 < L) (h3 : ¬ P < 1) (h4 : ¬ 1000 < P) :
    Calls Try.prog 3 #[.int .i64 L, .int .i64 P, .slice a2 len2 cap2] w fun e w' => e = .returned (.bool true) ∧ Below w.heap.size w w' := by
  have hlen : len2 ≤ 9223372036854775807 := w2.len_le
  have HR := Lib.hid (fun k hk => w2.cell (k := k) hk); clear w2
  go_enter Try.func3, Try.ntmps3
  go_wp2_with fail
  refine (awake_true _).mono ?_
  rintro e w1 ⟨rfl, hb1⟩
  go_wp2_with fail
  refine (newTimer_yes L P _ (by omega) (by omega) (by omega) (by omega)).mono ?_
  rintro e w2 ⟨rfl, hT, hb2, hz⟩
  go_wp2
  go_loopw [9, 10, 11] (fun a c i wr => ∃ k : Nat, ∃ W N : Int, k ≤ 300 ∧ k ≤ len2 ∧ i = .int .i64 k ∧ a = .int .i64 W ∧ c = .int .i64 N ∧ 1 ≤ W ∧ W ≤ 1000 ∧ 0 ≤ N ∧ N ≤ k ∧ TimerAt wr w1.heap.size L P W N ∧ Below w.heap.size w wr) (fun a c i wr => 300 - (intOf i).toNat)
  case atStart => exact ⟨0, 1, 0, by omega, by omega, rfl, rfl, rfl, by omega, by omega, by omega, by omega, hT, hb1.trans (hb2.mono hb1.size)⟩
  case round =>
    obtain ⟨k, W, N, hk, hkl, rfl, rfl, rfl, hW1, hW2, hN1, hN2, hT, hb⟩ := hrel
    by_cases hlt : k < len2 ∧ k < 300
    · obtain ⟨hl1, hl2⟩ := hlt
      obtain ⟨b, off, z, rfl, hbl, hc, hz1, hz2⟩ := HR.out k hl1
      have hc' : wr.cell? ⟨b, off + k, none⟩ = some (.int .u8 z) := by rw [hb.cell hbl]; exact hc
      clear hc
      have hs : wr.heap.size ≥ w1.heap.size := by have := hT.lt; omega
      have hsz := hb1.size
      by_cases h7 : z % 8 = 7
      · have h7' : (z % 8 == 7) = true := by simp [h7]
        clear h7
        go_wp2_with fail
        refine (heard_any _ _ _ _ _ _ hT).mono ?_
        rintro e w3 ⟨rfl, hT3, ho⟩
        go_wp2
        go_roundw
        case rel => exact ⟨k + 1, 1, N, by omega, by omega, by go_num, rfl, rfl, by omega, by omega, by omega, by omega, hT3, hb.trans (ho.below (by omega) (by intro j hj; omega))⟩
        case measure => simp [intOf]; omega
      · have h7' : (z % 8 == 7) = false := by simp [h7]
        clear h7
        by_cases hbz : z % 2 = 0
        · have hbz' : (z % 2 == 0) = true := by simp [hbz]
          clear hbz
          by_cases hn : N + 1 < W
          · have hc := tick_any w1.heap.size L P W N true wr hT (by omega) (by omega) (by omega)
            unfold tickW tickN at hc
            rw [tick_no (by simpa using hn)] at hc
            have HCt := Lib.hid hc; clear hc
            go_wp2_with fail
            refine HCt.out.mono ?_
            rintro e w3 ⟨rfl, hT3, ho⟩
            go_wp2
            go_roundw
            case rel => exact ⟨k + 1, W, N + 1, by omega, by omega, by go_num, rfl, rfl, by omega, by omega, by omega, by omega, hT3, hb.trans (ho.below (by omega) (by intro j hj; omega))⟩
            case measure => simp [intOf]; omega
          · have hc := tick_any w1.heap.size L P W N true wr hT (by omega) (by omega) (by omega)
            unfold tickW tickN at hc
            rw [tick_yes (by simpa using hn)] at hc
            have HCt := Lib.hid hc; clear hc
            by_cases h2W : L < 2 * W
            all_goals
              go_wp2_with fail
              refine HCt.out.mono ?_
              rintro e w3 ⟨rfl, hT3, ho⟩
              simp only [if_true] at hT3
              first | rw [show min (2 * W) L = L from by omega] at hT3 | rw [show min (2 * W) L = 2 * W from by omega] at hT3
              go_wp2
              go_roundw
              case rel => exact ⟨k + 1, _, 0, by omega, by omega, by go_num, rfl, rfl, by omega, by omega, by omega, by omega, hT3, hb.trans (ho.below (by omega) (by intro j hj; omega))⟩
              case measure => simp [intOf]; omega
        · have hbz' : (z % 2 == 0) = false := by simp [hbz]
          clear hbz
          by_cases hn : N + 1 < P
          · have hc := tick_any w1.heap.size L P W N false wr hT (by omega) (by omega) (by omega)
            unfold tickW tickN at hc
            rw [tick_no (by simpa using hn)] at hc
            have HCt := Lib.hid hc; clear hc
            go_wp2_with fail
            refine HCt.out.mono ?_
            rintro e w3 ⟨rfl, hT3, ho⟩
            go_wp2
            go_roundw
            case rel => exact ⟨k + 1, W, N + 1, by omega, by omega, by go_num, rfl, rfl, by omega, by omega, by omega, by omega, hT3, hb.trans (ho.below (by omega) (by intro j hj; omega))⟩
            case measure => simp [intOf]; omega
          · have hc := tick_any w1.heap.size L P W N false wr hT (by omega) (by omega) (by omega)
            unfold tickW tickN at hc
            rw [tick_yes (by simpa using hn)] at hc
            have HCt := Lib.hid hc; clear hc
            by_cases h2W : L < 2 * W
            all_goals
              go_wp2_with fail
              refine HCt.out.mono ?_
              rintro e w3 ⟨rfl, hT3, ho⟩
              simp only [if_true] at hT3
              first | rw [show min (2 * W) L = L from by omega] at hT3 | rw [show min (2 * W) L = 2 * W from by omega] at hT3
              go_wp2
              go_roundw
              case rel => exact ⟨k + 1, _, 0, by omega, by omega, by go_num, rfl, rfl, by omega, by omega, by omega, by omega, hT3, hb.trans (ho.below (by omega) (by intro j hj; omega))⟩
              case measure => simp [intOf]; omega
    · have hd : ¬ k < len2 ∨ ¬ k < 300 := by omega
      by_cases hl1 : k < len2 <;> by_cases hl2 : k < 300
      all_goals first | (exfalso; omega) | skip
      all_goals
        go_wp2_with fail
        refine (heard_nil _).mono ?_
        rintro e w3 ⟨rfl, rfl⟩
        go_wp2_with fail
        refine (tick_nil _ _).mono ?_
        rintro e w4 ⟨rfl, rfl⟩
        go_wp2
        go_ret
        exact ⟨rfl, hb⟩

theorem timers (L P : Int) (a2 : Option Addr) (len2 cap2 : Nat) (z2 : List Int) (w : World) (_ : (Lit.int .i64 L).wf = true) (_ : (Lit.int .i64 P).wf = true) (w2 : IsRow .u8 w a2 len2 cap2 z2) :
    Calls Try.prog 3 #[.int .i64 L, .int .i64 P, .slice a2 len2 cap2] w fun e w' => e = .returned (.bool true) ∧ Below w.heap.size w w' := by
  by_cases h : L < 1 ∨ 1000 < L ∨ P < 1 ∨ 1000 < P
  · exact timers_no L P a2 len2 cap2 w h
  · exact timers_yes L P a2 len2 cap2 z2 w w2 (by omega) (by omega) (by omega) (by omega)
end Go.Proofs.Ytalikihdckknoaa
