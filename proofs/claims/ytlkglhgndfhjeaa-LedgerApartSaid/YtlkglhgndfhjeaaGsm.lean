/- Package ledger: first, room, Need, Len, Left. -/
import Derived.Test.YtlkglhgndfhjeaaGdx
import Derived.IntWalk
namespace Go.Proofs.Ytlkglhgndfhjeaa
open Go Go.RowKit
set_option linter.unusedVariables false
set_option linter.unusedSimpArgs false
set_option maxRecDepth 100000

/-- A ledger's fields. -/
structure Fl where
  at_ : Nat
  half : Nat
  side : Nat
  turn : Nat
  en : Nat
  n : Nat
def cells8 (d : Nat) (f : Fl) (tv : Value) : Array Value := #[.pointer (some ⟨d, 0, none⟩), .int .i64 (f.at_ : Int), .int .i64 (f.half : Int), .int .i64 (f.side : Int), .int .u64 (f.turn : Int), tv, .int .i64 (f.en : Int), .int .i64 (f.n : Int)]
def Box (w : World) (l d : Nat) (f : Fl) (tv : Value) : Prop := w.heap[l]? = some (.cells (cells8 d f tv) 92 (0, 0))
theorem Box.cells {w : World} {l d : Nat} {f : Fl} {tv : Value} (h : Box w l d f tv) : w.cell? ⟨l, 0, none⟩ = some (.pointer (some ⟨d, 0, none⟩)) ∧ w.cell? ⟨l, 1, none⟩ = some (.int .i64 (f.at_ : Int)) ∧ w.cell? ⟨l, 2, none⟩ = some (.int .i64 (f.half : Int)) ∧ w.cell? ⟨l, 3, none⟩ = some (.int .i64 (f.side : Int)) ∧ w.cell? ⟨l, 4, none⟩ = some (.int .u64 (f.turn : Int)) ∧ w.cell? ⟨l, 5, none⟩ = some tv ∧ w.cell? ⟨l, 6, none⟩ = some (.int .i64 (f.en : Int)) ∧ w.cell? ⟨l, 7, none⟩ = some (.int .i64 (f.n : Int)) ∧ (∀ o, w.frozen? ⟨l, o, none⟩ = false) ∧ l < w.heap.size := by
  unfold Box at h
  refine ⟨?_, ?_, ?_, ?_, ?_, ?_, ?_, ?_, fun o => by simp [World.frozen?, h], (Array.getElem?_eq_some_iff.1 h).1⟩ <;> simp [World.cell?, h, cells8]
theorem Box.only {S : Nat → Prop} {w w' : World} {l d : Nat} {f : Fl} {tv : Value} (h : Box w l d f tv) (ho : Only S w w') (hS : ¬ S l) : Box w' l d f tv := by
  unfold Box at h ⊢
  rw [ho.block l (Array.getElem?_eq_some_iff.1 h).1 hS]; exact h
/-- The numbers are small. -/
structure Fl.Ok (f : Fl) : Prop where
  at_ : f.at_ ≤ 10000
  half : 2 ≤ f.half ∧ f.half ≤ 10000
  side : f.side ≤ 1
  turn : f.turn ≤ 1000000000
  en : f.en ≤ 1000000
  n : f.n ≤ 1000000
def Fl.first (f : Fl) (s : Nat) : Nat := f.at_ + s * f.half + 1
def Fl.room (f : Fl) : Nat := (f.half - 1) * 64
theorem side_mul {s h : Nat} (hs : s ≤ 1) (hh : h ≤ 10000) : s * h ≤ 10000 := by
  have : s * h ≤ 1 * h := Nat.mul_le_mul_right h hs
  omega
set_option maxHeartbeats 1000000 in
theorem first_q (w : World) (l d : Nat) (f : Fl) (tv : Value) (s : Nat) (h : Box w l d f tv) (ok : f.Ok) (hs : s ≤ 1) :
    Calls Try.prog 59 #[.pointer (some ⟨l, 0, none⟩), .int .i64 (s : Int)] w fun e w' => e = .returned (.int .i64 (f.first s : Int)) ∧ ∃ m, w' = w.drewN m := by
  obtain ⟨_, c1, c2, _, _, _, _, _, _, _⟩ := h.cells
  have b1 := ok.at_; have b2 := ok.half.2
  have hm := side_mul hs b2
  have e1 : ((f.first s : Nat) : Int) = (f.at_ : Int) + ((s * f.half : Nat) : Int) + 1 := by unfold Fl.first; omega
  have e2 : (s : Int) * (f.half : Int) = ((s * f.half : Nat) : Int) := by simp
  rw [e1]
  clear h ok e1
  generalize s * f.half = p at *
  generalize f.at_ = a at *
  generalize f.half = hh at *
  have z1 : IntKind.i64.wrap ((p : Nat) : Int) = (p : Int) := by rw [IntKind.wrap_i64]; omega
  have z2 : IntKind.i64.wrap ((a : Int) + (p : Int)) = (a : Int) + (p : Int) := by rw [IntKind.wrap_i64]; omega
  have z3 : IntKind.i64.wrap ((a : Int) + (p : Int) + 1) = (a : Int) + (p : Int) + 1 := by rw [IntKind.wrap_i64]; omega
  go_enter Try.func59, Try.ntmps59
  go_upto_region 1 with (fail)
  go_quiet (fail)
  clear e2 z1 z2 z3
  go_wp2
  go_ret
  exact ⟨rfl, _, rfl⟩
theorem room_any (w : World) (l d : Nat) (f : Fl) (tv : Value) (h : Box w l d f tv) (ok : f.Ok) :
    Calls Try.prog 60 #[.pointer (some ⟨l, 0, none⟩)] w fun e w' => e = .returned (.int .i64 (f.room : Int)) ∧ w = w' := by
  obtain ⟨_, c1, c2, _, _, _, _, _, _, _⟩ := h.cells
  have b2 := ok.half
  have e1 : ((f.room : Nat) : Int) = ((f.half : Int) - 1) * 64 := by unfold Fl.room; omega
  rw [e1]
  clear h ok e1
  generalize f.half = hh at *
  have q1 : (2 : Int) ≤ (hh : Int) := by omega
  have q2 : (hh : Int) ≤ 10000 := by omega
  go_enter Try.func60, Try.ntmps60
  go_wp2
  go_ret
  exact ⟨rfl, rfl⟩
theorem need_any (n : Int) (w : World) (h0 : 0 ≤ n) (h1 : n ≤ 1000000000000) :
    Calls Try.prog 42 #[.int .i64 n] w fun e w' => e = .returned (.int .i64 (n + 8)) ∧ w = w' := by
  go_enter Try.func42, Try.ntmps42
  go_wp2
  go_ret
  exact ⟨rfl, rfl⟩
theorem llen_nil (w : World) : Calls Try.prog 44 #[.pointer none] w fun e w' => e = .returned (.int .i64 0) ∧ w = w' := by
  go_enter Try.func44, Try.ntmps44
  go_wp2
  go_ret
  exact ⟨rfl, rfl⟩
theorem llen_any (w : World) (l d : Nat) (f : Fl) (tv : Value) (h : Box w l d f tv) (ok : f.Ok) (hn : 1 ≤ f.n) :
    Calls Try.prog 44 #[.pointer (some ⟨l, 0, none⟩)] w fun e w' => e = .returned (.int .i64 ((f.n : Int) - 1)) ∧ w = w' := by
  obtain ⟨_, _, _, _, _, _, _, c7, _, _⟩ := h.cells
  have b := ok.n
  have q1 : (1 : Int) ≤ (f.n : Int) := by omega
  have q2 : (f.n : Int) ≤ 1000000 := by omega
  clear h ok
  go_enter Try.func44, Try.ntmps44
  go_wp2
  go_ret
  exact ⟨rfl, rfl⟩
theorem lleft_nil (w : World) : Calls Try.prog 41 #[.pointer none] w fun e w' => e = .returned (.int .i64 0) ∧ w = w' := by
  go_enter Try.func41, Try.ntmps41
  go_wp2
  go_ret
  exact ⟨rfl, rfl⟩
theorem lleft_any (w : World) (l d : Nat) (f : Fl) (tv : Value) (h : Box w l d f tv) (ok : f.Ok) :
    Calls Try.prog 41 #[.pointer (some ⟨l, 0, none⟩)] w fun e w' => e = .returned (.int .i64 ((f.room : Int) - (f.en : Int))) ∧ ∃ m, w' = w.drewN m := by
  obtain ⟨_, _, _, _, _, _, c6, _, _, _⟩ := h.cells
  have b1 := ok.en
  have b2 : f.room ≤ 1000000 := by unfold Fl.room; have := ok.half; omega
  have hr := fun w' (h' : Box w' l d f tv) => room_any w' l d f tv h' ok
  have z1 : IntKind.i64.wrap ((f.room : Int) - (f.en : Int)) = (f.room : Int) - (f.en : Int) := by rw [IntKind.wrap_i64]; omega
  have HB := Lib.hid h; have HR := Lib.hid hr; clear h hr ok
  generalize f.room = r at *
  go_enter Try.func41, Try.ntmps41
  go_upto_region 3 with (fail)
  go_quiet ((go_at_call 60; exact Calls.quiet_of_same ((HR.out _ (HB.out.only ((Only.refl (fun _ => False) _).drewN _) (fun h => h))).mono fun e w' ⟨h1, h2⟩ => ⟨h1, h2.symm⟩)))
  clear z1
  go_wp2
  go_ret
  exact ⟨rfl, _, rfl⟩
end Go.Proofs.Ytlkglhgndfhjeaa
