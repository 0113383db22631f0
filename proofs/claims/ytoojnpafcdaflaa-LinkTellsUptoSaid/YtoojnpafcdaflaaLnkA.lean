/- The document's example: columbarylaw17.awake returns true. -/
import Derived.Test.YtoojnpafcdaflaaLnk
namespace Go.Proofs.Ytoojnpafcdaflaa
open Go Go.RowKit
set_option linter.unusedVariables false
set_option linter.unusedSimpArgs false

/-- After k ticks: the wait, the count, the text. -/
def aw : Nat → Int × Int × List UInt8
  | 0 => (1, 0, [])
  | k + 1 => (tickW 4 9 (aw k).1 (aw k).2.1 true, tickN 9 (aw k).1 (aw k).2.1 true, if tickT 9 (aw k).1 (aw k).2.1 true then (aw k).2.2 ++ [UInt8.ofNat (97 + k)] else (aw k).2.2)

theorem awake_true (w : World) : Calls Try.prog 42 #[] w fun e w' => e = .returned (.bool true) ∧ Below w.heap.size w w' := by
  go_enter Try.func42, Try.ntmps42
  go_wp2_with (go_at_call 66; refine (newTimer_yes 4 9 _ (by omega) (by omega) (by omega) (by omega)).mono ?_; rintro e w1 ⟨rfl, hT, hb, hz⟩)
  go_loopw [3, 4] (fun s i wr => ∃ k : Nat, k ≤ 16 ∧ i = .int .i64 (k + 1) ∧ s = .string ⟨(aw k).2.2.toArray⟩ ∧ TimerAt wr w.heap.size 4 9 (aw k).1 (aw k).2.1 ∧ Below w.heap.size w wr) (fun s i wr => 17 - (intOf i).toNat)
  case atStart => exact ⟨0, by omega, by go_num, rfl, hT, hb⟩
  case round =>
    obtain ⟨k, hk, rfl, rfl, hT, hb⟩ := hrel
    by_cases hlt : k < 16
    · have hbd : 0 ≤ (aw k).2.1 ∧ (aw k).2.1 ≤ 10 ∧ 1 ≤ (aw k).1 ∧ (aw k).1 ≤ 4 := by
        have : ∀ j, j < 16 → 0 ≤ (aw j).2.1 ∧ (aw j).2.1 ≤ 10 ∧ 1 ≤ (aw j).1 ∧ (aw j).1 ≤ 4 := by decide
        exact this k hlt
      obtain ⟨b1, b2, b3, b4⟩ := hbd
      have hnext : aw (k + 1) = (tickW 4 9 (aw k).1 (aw k).2.1 true, tickN 9 (aw k).1 (aw k).2.1 true, if tickT 9 (aw k).1 (aw k).2.1 true then (aw k).2.2 ++ [UInt8.ofNat (97 + k)] else (aw k).2.2) := rfl
      have HN := Lib.hid hnext; clear hnext
      have hsz : (aw k).2.2.length ≤ 16 := by
        have : ∀ j, j < 16 → (aw j).2.2.length ≤ 16 := by decide
        exact this k hlt
      go_wp2_with fail
      refine (tick_any _ 4 9 _ _ true _ hT (by omega) (by omega) (by omega)).mono ?_
      rintro e w2 ⟨rfl, hT2, ho⟩
      have hb2 := hb.trans (ho.below (B := w.heap.size) (by have := hb.size; omega) (by intro j hj; omega))
      cases ht : tickT 9 (aw k).1 (aw k).2.1 true
      · have Ht := Lib.hid ht; clear ht
        go_wp2
        go_roundw
        case rel => exact ⟨k + 1, by omega, by go_num, by rw [HN.out, Ht.out]; rfl, by rw [HN.out]; exact hT2, hb2⟩
        case measure => simp [intOf]; omega
      · have Ht := Lib.hid ht; clear ht
        have hcv := run_convert_bytes_arg (P := Try.prog) (w2.alloc (.cells #[.int .u8 (97 + ((k : Int) + 1) - 1)] 5)) 24 5 Try.underlying24 Try.underlying5 w2.heap.size 0 1 1 [97 + ((k : Int) + 1) - 1] rfl (by intro i hi; obtain rfl : i = 0 := (by omega); exact (World.cell?_alloc_mark _ _ _ _ _).trans rfl) 9 Try.underlying9
        have hs2 : (strOfNums [97 + ((k : Int) + 1) - 1]).size ≤ 1 := by rw [strOfNums_size]; simp
        go_wp2
        go_roundw
        case rel =>
          have hc : 97 + ((k : Int) + 1) - 1 = ((97 + k : Nat) : Int) := by omega
          exact ⟨k + 1, by omega, by go_num, by rw [HN.out, Ht.out, strOfNums_eq, bytes_append, hc, List.map_cons, List.map_nil, Int.toNat_natCast]; rfl, by rw [HN.out]; exact hT2.alloc _, hb2.alloc (by have := hb2.size; omega) _⟩
        case measure => simp [intOf]; omega
    · obtain rfl : k = 16 := by omega
      go_wp2
      go_ret
      exact ⟨ret_bool (by decide), hb⟩
end Go.Proofs.Ytoojnpafcdaflaa
