/- Package link's timer: NewTimer, Tick, Heard: what each call does. -/
import Derived.Test.YtoojnpafcdaflaaRows
import Derived.Test.YtoojnpafcdaflaaKit
namespace Go.Proofs.Ytoojnpafcdaflaa
open Go Go.RowKit
set_option linter.unusedVariables false
set_option linter.unusedSimpArgs false

def TimerAt (w : World) (b : Nat) (L P W N : Int) : Prop :=
  w.heap[b]? = some (.cells #[.int .i64 L, .int .i64 P, .int .i64 W, .int .i64 N] 116 (0, 0))

theorem TimerAt.cells {w : World} {b : Nat} {L P W N : Int} (h : TimerAt w b L P W N) :
    w.cell? ⟨b, 0, none⟩ = some (.int .i64 L) ∧ w.cell? ⟨b, 0+1, none⟩ = some (.int .i64 P) ∧ w.cell? ⟨b, 0+2, none⟩ = some (.int .i64 W) ∧ w.cell? ⟨b, 0+3, none⟩ = some (.int .i64 N) := by
  unfold TimerAt at h; simp [World.cell?, h]
theorem TimerAt.free {w : World} {b : Nat} {L P W N : Int} (h : TimerAt w b L P W N) (o : Nat) : w.frozen? ⟨b, o, none⟩ = false := by
  unfold TimerAt at h; simp [World.frozen?, h]
theorem TimerAt.lt {w : World} {b : Nat} {L P W N : Int} (h : TimerAt w b L P W N) : b < w.heap.size := by
  unfold TimerAt at h; exact (Array.getElem?_eq_some_iff.1 h).1

theorem TimerAt.alloc {w : World} {b : Nat} {L P W N : Int} (h : TimerAt w b L P W N) (o : Obj) : TimerAt (w.alloc o) b L P W N := heap_old h o

/-- What a tick comes to: is it time; the wait, the count. -/
def tickT (P W N : Int) (busy : Bool) : Bool := decide (¬ N + 1 < if busy then W else P)
def tickW (L P W N : Int) (busy : Bool) : Int := if tickT P W N busy then min (2 * W) L else W
def tickN (P W N : Int) (busy : Bool) : Int := if tickT P W N busy then 0 else N + 1

theorem tick_no {P W N : Int} {busy : Bool} (h : N + 1 < if busy then W else P) : tickT P W N busy = false := by simp [tickT, h]
theorem tick_yes {P W N : Int} {busy : Bool} (h : ¬ N + 1 < if busy then W else P) : tickT P W N busy = true := by simp only [tickT]; exact decide_eq_true h
set_option maxHeartbeats 400000 in
theorem tick_any (b : Nat) (L P W N : Int) (busy : Bool) (w : World) (hT : TimerAt w b L P W N) (hn : -1 ≤ N ∧ N ≤ 100000) (hW : 1 ≤ W ∧ W ≤ 2000) (hL : 1 ≤ L ∧ L ≤ 2000) :
    Calls Try.prog 67 #[.pointer (some ⟨b, 0, none⟩), .bool busy] w fun e w' => e = .returned (.bool (tickT P W N busy)) ∧ TimerAt w' b L P (tickW L P W N busy) (tickN P W N busy) ∧ Only (· = b) w w' := by
  obtain ⟨c0, c1, c2, c3⟩ := hT.cells
  have f := hT.free
  have HT := Lib.hid hT; clear hT
  by_cases ht : N + 1 < if busy then W else P
  · have h1 := tick_no ht
    unfold tickW tickN
    rw [h1]
    clear h1
    cases busy <;> simp only [if_true, if_false, Bool.false_eq_true] at ht
    all_goals
      go_enter Try.func67, Try.ntmps67
      go_wp2
      go_ret
      refine ⟨rfl, ?_, by (repeat' (first | (with_reducible exact Only.refl _ _) | (with_reducible assumption) | (with_reducible refine Only.drew ?_) | (with_reducible refine Only.drewN ?_ _) | (with_reducible refine Only.alloc ?_ _) | (with_reducible refine Only.setCell ?_ ?_ _) | (first | exact Or.inl rfl | exact Or.inl (Or.inl rfl) | exact Or.inl (Or.inr rfl) | (simp; omega) | (simp; done) | omega)))⟩
      simpa [TimerAt] using heap_set (o := 3) HT.out (.int .i64 (N + 1))
  · have h1 := tick_yes ht
    unfold tickW tickN
    rw [h1]
    clear h1
    cases busy <;> simp only [if_true, if_false, Bool.false_eq_true] at ht
    all_goals
      go_enter Try.func67, Try.ntmps67
      go_wp2
      go_region
      all_goals
        go_wp2
        all_goals
          go_ret
          refine ⟨rfl, ?_, by (repeat' (first | (with_reducible exact Only.refl _ _) | (with_reducible assumption) | (with_reducible refine Only.drew ?_) | (with_reducible refine Only.drewN ?_ _) | (with_reducible refine Only.alloc ?_ _) | (with_reducible refine Only.setCell ?_ ?_ _) | (first | exact Or.inl rfl | exact Or.inl (Or.inl rfl) | exact Or.inl (Or.inr rfl) | (simp; omega) | (simp; done) | omega)))⟩
          first | rw [show min (2 * W) L = L from by omega] | rw [show min (2 * W) L = 2 * W from by omega]
          unfold TimerAt
          rw [heap_drew (heap_set (o := 2) (heap_set (o := 3) (heap_set (o := 3) HT.out _) _) _)]
          rfl

theorem tick_nil (busy : Bool) (w : World) : Calls Try.prog 67 #[.pointer none, .bool busy] w fun e w' => e = .returned (.bool false) ∧ w = w' := by
  go_enter Try.func67, Try.ntmps67
  go_wp2
  go_ret
  exact ⟨rfl, rfl⟩
theorem newTimer_no (L P : Int) (w : World) (h : L < 1 ∨ 1000 < L ∨ P < 1 ∨ 1000 < P) :
    Calls Try.prog 66 #[.int .i64 L, .int .i64 P] w fun e w' => e = .returned (.tuple #[.pointer none, .int .i64 1]) ∧ w = w' := by
  by_cases h1 : L < 1 <;> by_cases h2 : 1000 < L <;> by_cases h3 : P < 1 <;> by_cases h4 : 1000 < P
  all_goals first | (exfalso; omega) | skip
  all_goals
    clear h
    go_enter Try.func66, Try.ntmps66
    go_wp2
    go_ret2
    exact ⟨rfl, rfl⟩
theorem newTimer_yes (L P : Int) (w : World) (h1 : ¬ L < 1) (h2 : ¬ 1000 < L) (h3 : ¬ P < 1) (h4 : ¬ 1000 < P) :
    Calls Try.prog 66 #[.int .i64 L, .int .i64 P] w fun e w' => e = .returned (.tuple #[.pointer (some ⟨w.heap.size, 0, none⟩), .int .i64 0]) ∧ TimerAt w' w.heap.size L P 1 0 ∧ Below w.heap.size w w' ∧ w'.heap.size = w.heap.size + 1 := by
  go_enter Try.func66, Try.ntmps66
  go_wp2
  go_ret2
  refine ⟨rfl, ?_, (Below.refl _ _).alloc (Nat.le_refl _) _, by simp⟩
  exact heap_new _ _
end Go.Proofs.Ytoojnpafcdaflaa
