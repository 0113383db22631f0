/- Tokens, in plain Lean: the end is last; a fault's number. parse.Document's deferred calls. parse.Document: its answer; the loop's invariant; the door. -/
import Derived.Test.YtgephneppgcnlaaGreatDoorPrd
import Derived.Test.YtgephneppgcnlaaGreatDoorTkA
import Derived.Test.YtgephneppgcnlaaGreatDoorEnR
import Derived.Test.YtgephneppgcnlaaGreatDoorOwC
import Derived.Test.YtgephneppgcnlaaGreatDoorEnD
import Derived.Test.YtgephneppgcnlaaGreatDoorPvh
import Derived.Test.YtgephneppgcnlaaGreatDoorRgA
import Derived.Recover
import Derived.Test.YtgephneppgcnlaaGreatDoorPrA
import Derived.Test.YtgephneppgcnlaaGreatDoorCtw
namespace Go.Proofs.YtgephneppgcnlaaGreatDoor
open Go Go.RowKit
set_option linter.unusedVariables false
set_option linter.unusedSimpArgs false

theorem box1 {w : World} {b : Nat} {x0 : Value} {T : TypeId} (h : w.heap[b]? = some (.cells #[x0] T (0, 0))) : w.cell? ⟨b, 0, none⟩ = some x0 ∧ ∀ o, w.frozen? ⟨b, o, none⟩ = false := by
  refine ⟨?_, fun o => ?_⟩ <;> simp [World.cell?, World.frozen?, h]
theorem assert_fault (v : Value) (w : World) : (Instr.typeAssert (.iface 128 v) 20 128 true).run Tryz.prog w = .ok (.tuple #[v, .bool true]) w := by kernel_rfl
set_option maxRecDepth 100000 in
set_option maxHeartbeats 4000000 in
/-- A panic is caught: its error is laid. -/
theorem caught_bad (X c : Nat) (x : Value) (w : World) (hx : w.heap[X]? = some (.cells #[x] 24 (0, 0))) :
    CallsD Tryz.prog 83 #[.pointer (some ⟨X, 0, none⟩)] (.panicking (faultV c)) w fun e u' w' =>
      e = .returned (.tuple #[]) ∧ settle u' = .returning ∧ w'.heap[X]? = some (.cells #[.int .i64 (c : Int)] 24 (0, 0)) ∧ Only (fun k => k = X) w w' := by
  obtain ⟨c0, fz⟩ := box1 hx
  have hX := (Array.getElem?_eq_some_iff.1 hx).1
  refine callsD_of_wpS Tryz.func83 rfl fun c₀ cs hu => ?_
  apply wpS_seq
  apply wpS_region
  simp [wpOpsS, go_sem, recoverD, hu, faultV, Tryz.ntmps83, Exit.thenS]
  apply wpS_seq
  apply wpS_region
  simp [wpOpsS, go_sem, Exit.thenS]
  refine wpS_cond (t := true) (by simp [Act.eval]) ?_
  simp only [if_true]
  refine wpS_of_wp ?_
  obtain ⟨PP, hPP⟩ : ∃ PP : World → Prop, ∀ w', PP w' ↔ (w'.heap[X]? = some (.cells #[.int .i64 (c : Int)] 24 (0, 0)) ∧ Only (fun k => k = X) w w') := ⟨_, fun _ => Iff.rfl⟩
  refine Code.wp_mono (Q := fun e a' w' => e = Exit.normal ∧ a'.defers = [] ∧ PP w') ?_ ?_
  · rintro e a' w' ⟨rfl, hd, hh⟩
    obtain ⟨h1, h2⟩ := (hPP _).1 hh
    refine ⟨hd, _, rfl, .tuple #[], by simp [results, Tryz.results83, go_sem], rfl, rfl, h1, h2⟩
  · have hw1 := heap_set (o := 0) hx (.int .i64 (c : Int))
    have hw2 : ((w.setCell ⟨X, 0, none⟩ (.int .i64 (c : Int))).alloc (.cells #[.int .i64 (c : Int)] 128)).heap[X]? = some (.cells #[.int .i64 (c : Int)] 24 (0, 0)) := heap_old (by simpa using hw1) _
    have ho : Only (fun k => k = X) w ((w.setCell ⟨X, 0, none⟩ (.int .i64 (c : Int))).alloc (.cells #[.int .i64 (c : Int)] 128)) := ((Only.refl (fun k => k = X) w).setCell (p := ⟨X, 0, none⟩) (.inl rfl) _).alloc _
    have HH := Lib.hid ((hPP _).2 ⟨hw2, ho⟩)
    have has := assert_fault
    clear hu hx hw1 hw2 ho hPP
    show Code.wp _ _ _ { tmps := #[.pointer (some ⟨X, 0, none⟩), undef, (.iface 128 (.agg #[.int .i64 (c : Int)])), undef, undef, (.iface 128 (.agg #[.int .i64 (c : Int)])), (.iface 128 (.agg #[.int .i64 (c : Int)])), .bool true, undef, undef, undef, undef, undef, undef, undef, undef, undef, undef, undef, undef], defers := [] } _
    go_wp2_with fail
    first
      | exact HH.out
      | exact ⟨rfl, rfl, HH.out⟩
set_option maxRecDepth 100000 in
set_option maxHeartbeats 4000000 in
/-- There is no panic: nothing is done. -/
theorem caught_ok (X : Nat) (w : World) :
    CallsD Tryz.prog 83 #[.pointer (some ⟨X, 0, none⟩)] .returning w fun e u' w' => e = .returned (.tuple #[]) ∧ u' = .returning ∧ w' = w := by
  refine callsD_of_wpS Tryz.func83 rfl fun c₀ cs hu => ?_
  apply wpS_seq
  apply wpS_region
  simp [wpOpsS, go_sem, recoverD, hu, Tryz.ntmps83, Exit.thenS]
  apply wpS_seq
  apply wpS_region
  simp [wpOpsS, go_sem, Exit.thenS]
  refine wpS_cond (t := false) (by simp [Act.eval]) ?_
  simp only [Bool.false_eq_true, if_false]
  refine wpS_of_wp ?_
  refine Code.wp_mono (Q := fun e a' w' => e = Exit.normal ∧ a'.defers = [] ∧ w' = w) ?_ ?_
  · rintro e a' w' ⟨rfl, hd, rfl⟩
    refine ⟨hd, .returning, ?_, .tuple #[], by simp [results, Tryz.results83, go_sem], rfl, rfl, rfl⟩
    cases c₀; simp_all
  · exact wp_skip ⟨rfl, rfl, rfl⟩
end Go.Proofs.YtgephneppgcnlaaGreatDoor
namespace Go.Proofs.YtgephneppgcnlaaGreatDoor
open Go Go.RowKit
set_option linter.unusedVariables false
set_option linter.unusedSimpArgs false

def dfC (E : Nat) : Deferred := { target := Target.fn (Fn.func 83) #[], args := #[.pointer (some ⟨E, 0, none⟩)] }
theorem RdP.apart {w : World} {b : Nat} {all r : List Tok} {dp : Int} (h : RdP w b all r dp) {k : Nat} {xs : Array Value} {T : TypeId} (hk : w.heap[k]? = some (.cells xs T (0, 0))) (hx : ∀ (i : Nat) (n : Int), xs[i]? ≠ some (.int .u8 n)) {g off n c : Nat} (hc : w.cell? ⟨b, 0, none⟩ = some (.slice (some ⟨g, off, none⟩) n c)) : g ≠ k := by
  obtain ⟨g', off', c', N, t, r', rfl, i, c0, c1, c2, fz, hi, hcp, hN, hcm, a1, -⟩ := h.next
  rw [hc] at c0
  injection c0 with c0; injection c0 with c0 _ _; injection c0 with c0; injection c0 with e1 e2 _
  subst e1
  rintro rfl
  simp only [World.cell?, hk] at a1
  exact hx _ _ (by simpa using a1)
theorem i64_no (m : Int) (i : Nat) (n : Int) : (#[.int .i64 m] : Array Value)[i]? ≠ some (.int .u8 n) := by
  rcases i with _ | i <;> simp
theorem rdP_old {w w' : World} {b k : Nat} {all r : List Tok} {dp : Int} (h : RdP w b all r dp) (o1 : Only (fun q => q = k) w w') (hbk : b ≠ k) (hg : ∀ g off n c', w.cell? ⟨b, 0, none⟩ = some (.slice (some ⟨g, off, none⟩) n c') → g ≠ k) : RdP w' b all r dp := by
  obtain ⟨g, off, c', i, q1, q2, q3, q4, q5⟩ := h.row
  have hgE : g ≠ k := hg g off all.length c' (by simp [World.cell?, q1])
  refine ⟨⟨g, off, c', i, (o1.block b h.lt (by omega)).trans q1, q2.only o1 (fun a n c e => ?_), q3, q4, q5⟩, h.ends, h.few⟩
  injection e with e; injection e with e; subst e
  show ¬ g = k; exact hgE
end Go.Proofs.YtgephneppgcnlaaGreatDoor
