/- parse.Document: its answer; the loop's invariant; the door. -/
import Derived.Test.YtgephneppgcnlaaDoorDct
import Derived.Test.YtgephneppgcnlaaDoorPdp
import Derived.Test.YtgephneppgcnlaaDoorPrm
import Derived.Test.YtgephneppgcnlaaDoorCtw
import Derived.Test.YtgephneppgcnlaaDoorPbc
namespace Go.Proofs.YtgephneppgcnlaaDoor
open Go Go.RowKit
set_option linter.unusedVariables false
set_option linter.unusedSimpArgs false

def docC (d : DC) : List Cell := [.row 4 (d.ops.map opC), .row 3 (d.frags.map frC)]
/-- What parse.Document hands back. -/
def DocRes (w : World) (p : DR1) (e : Ending) (w' : World) : Prop := match p with
  | .ok d => ∃ a1 c1 a2 c2, e = .returned (.tuple #[.agg #[.slice a1 d.ops.length c1, .slice a2 d.frags.length c2], .int .i64 0, .int .i64 0]) ∧ CellsAt w' (fun q => w.heap.size ≤ q) (docC d) [.slice a1 d.ops.length c1, .slice a2 d.frags.length c2] ∧ Only (fun _ => False) w w'
  | .bad a c => e = .returned (.tuple #[.agg #[.slice none 0 0, .slice none 0 0], .int .i64 (a : Int), .int .i64 (c : Int)]) ∧ Only (fun _ => False) w w'
def DocI (w : World) (D A E Rb b : Nat) (all : List Tok) (R : PR DC) (more : Bool) (wr : World) : Prop :=
  ∃ (acc : DC) (rest : List Tok) (vO vF : Value), wr.heap[D]? = some (.cells #[vO, vF] 26 (0, 0)) ∧ wr.heap[A]? = some (.cells #[.int .i64 0] 3 (0, 0)) ∧ wr.heap[E]? = some (.cells #[.int .i64 0] 27 (0, 0)) ∧ wr.heap[Rb]? = some (.cells #[.pointer (some ⟨b, 0, none⟩)] 76 (0, 0)) ∧
    OwnTwo wr (Rb + 1) 39 53 4 3 vO vF (acc.ops.map opC) (acc.frags.map frC) ∧ RdP wr b all rest (24 - ((24 : Nat) : Int)) ∧ Only (fun _ => False) w wr ∧ acc.ops.length + acc.frags.length + rest.length ≤ 1000000 ∧
    (more = true → ∃ n, rest.length < n ∧ docF n acc rest = R) ∧ (more = false → R = .ok acc rest)
def dfC (E : Nat) : Deferred := { target := Target.fn (Fn.func 25) #[], args := #[.pointer (some ⟨E, 0, none⟩)] }
def dfD (E Rb D A : Nat) : Deferred := { target := Target.fn (Fn.func 24) #[.pointer (some ⟨E, 0, none⟩), .pointer (some ⟨Rb, 0, none⟩), .pointer (some ⟨D, 0, none⟩), .pointer (some ⟨A, 0, none⟩)], args := #[] }
theorem infoO : (Tryd.prog.info? 39).map (fun i => (i.zero, i.size, i.bytes)) = some (some (.agg #[.bool false, .string ByteArray.empty, .slice none 0 0, .slice none 0 0]), 4, 72) := by kernel_rfl
theorem infoF : (Tryd.prog.info? 53).map (fun i => (i.zero, i.size, i.bytes)) = some (some (.agg #[.string ByteArray.empty, .string ByteArray.empty, .slice none 0 0]), 3, 56) := by kernel_rfl
theorem RdP.apart {w : World} {b : Nat} {all r : List Tok} {dp : Int} (h : RdP w b all r dp) {k : Nat} {xs : Array Value} {T : TypeId} (hk : w.heap[k]? = some (.cells xs T (0, 0))) (hx : ∀ (i : Nat) (n : Int), xs[i]? ≠ some (.int .u8 n)) {g off n c : Nat} (hc : w.cell? ⟨b, 0, none⟩ = some (.slice (some ⟨g, off, none⟩) n c)) : g ≠ k := by
  obtain ⟨g', off', c', N, t, r', rfl, i, c0, c1, c2, fz, hi, hcp, hN, hcm, a1, -⟩ := h.next
  rw [hc] at c0
  injection c0 with c0; injection c0 with c0 _ _; injection c0 with c0; injection c0 with e1 e2 _
  subst e1
  rintro rfl
  simp only [World.cell?, hk] at a1
  exact hx _ _ (by simpa using a1)
theorem slices_no (a : Option Addr) (l c : Nat) (a' : Option Addr) (l' c' : Nat) (i : Nat) (n : Int) : (#[.slice a l c, .slice a' l' c'] : Array Value)[i]? ≠ some (.int .u8 n) := by
  rcases i with _ | _ | i <;> simp
theorem i64_no (m : Int) (i : Nat) (n : Int) : (#[.int .i64 m] : Array Value)[i]? ≠ some (.int .u8 n) := by
  rcases i with _ | i <;> simp
theorem rdP_old {w w' : World} {b k : Nat} {all r : List Tok} {dp : Int} (h : RdP w b all r dp) (o1 : Only (fun q => q = k) w w') (hbk : b ≠ k) (hg : ∀ g off n c', w.cell? ⟨b, 0, none⟩ = some (.slice (some ⟨g, off, none⟩) n c') → g ≠ k) : RdP w' b all r dp := by
  obtain ⟨g, off, c', i, q1, q2, q3, q4, q5⟩ := h.row
  have hgE : g ≠ k := hg g off all.length c' (by simp [World.cell?, q1])
  refine ⟨⟨g, off, c', i, (o1.block b h.lt (by omega)).trans q1, q2.only o1 (fun a n c e => ?_), q3, q4, q5⟩, h.ends, h.few⟩
  injection e with e; injection e with e; subst e
  show ¬ g = k; exact hgE
theorem RdP.below {w : World} {b : Nat} {all r : List Tok} {dp : Int} (h : RdP w b all r dp) {g off n c : Nat} (hc : w.cell? ⟨b, 0, none⟩ = some (.slice (some ⟨g, off, none⟩) n c)) : g < b := by
  obtain ⟨g', off', c', i, h1, h2, h3, h4, h5⟩ := h.row
  simp [World.cell?, h1] at hc
  omega
/-- The door, where a panic comes. -/
theorem door2_bad {fn : Func} {tmps : Array Value} {R : Ending → World → Prop} {D A E Rb b c : Nat} {d0 d1 : Value} {x : Int} {all r : List Tok} {dp : Int} {w : World} (hc : c ≠ 0)
    (hD : w.heap[D]? = some (.cells #[d0, d1] 26 (0, 0))) (hA : w.heap[A]? = some (.cells #[.int .i64 x] 3 (0, 0))) (hE : w.heap[E]? = some (.cells #[.int .i64 0] 27 (0, 0))) (hRb : w.heap[Rb]? = some (.cells #[.pointer (some ⟨b, 0, none⟩)] 76 (0, 0)))
    (h : RdP w b all r dp) (h1 : D < A) (h2 : A < E) (h3 : E < b) (h4 : b < Rb) (hd : ∀ (i : Nat) (n : Int), (#[d0, d1] : Array Value)[i]? ≠ some (.int .u8 n))
    (hR : ∀ w', w'.heap[D]? = some (.cells #[.slice none 0 0, .slice none 0 0] 26 (0, 0)) → w'.heap[A]? = some (.cells #[.int .i64 (atT r : Int)] 3 (0, 0)) → w'.heap[E]? = some (.cells #[.int .i64 (c : Int)] 27 (0, 0)) → Only (fun k => k = D ∨ k = A ∨ k = E) w w' → ∃ v, (results fn tmps).run Tryd.prog w' = .ok v w' ∧ R (.returned v) w') :
    bodyPostD Tryd.prog fn R (Exit.panic (faultV c)) { tmps := tmps, defers := [dfC E, dfD E Rb D A] } w := by
  refine leaves_cons (f := 25) (args := #[.pointer (some ⟨E, 0, none⟩)]) (by simp) (by simp [go_sem]) ?_
  refine (caught_bad E c _ w hE).mono ?_
  rintro e u' w1 ⟨rfl, hu, e1, o1⟩
  have hD1 := (o1.block D (Array.getElem?_eq_some_iff.1 hD).1 (by omega)).trans hD
  have hA1 := (o1.block A (Array.getElem?_eq_some_iff.1 hA).1 (by omega)).trans hA
  have hR1 := (o1.block Rb (Array.getElem?_eq_some_iff.1 hRb).1 (by omega)).trans hRb
  have hr1 : RdP w1 b all r dp := rdP_old h o1 (by omega) (fun g off n c' hcc => h.apart hE (i64_no 0) hcc)
  show Leaves _ _ _ _ _ (settle u') w1
  rw [hu]
  refine leaves_cons (f := 24) (args := #[.pointer (some ⟨E, 0, none⟩), .pointer (some ⟨Rb, 0, none⟩), .pointer (some ⟨D, 0, none⟩), .pointer (some ⟨A, 0, none⟩)]) (by simp) (by simp [go_sem]) ?_
  refine (doc1_bad E Rb D A b c x d0 d1 all r dp _ w1 e1 hc hR1 hD1 hA1 hr1 (by omega) (by omega) (by omega) (fun g off n c' hcc => hr1.apart hD1 hd hcc)).mono ?_
  rintro e u'' w2 ⟨rfl, rfl, k1, k2, k3⟩
  exact hR w2 k1 k2 ((k3.block E (Array.getElem?_eq_some_iff.1 e1).1 (by omega)).trans e1) ((o1.mono (fun q _ h => .inr (.inr h))).trans (k3.mono (fun q _ h => h.elim .inl (fun h => .inr (.inl h)))))
/-- The door, where the call returns. -/
theorem door2_ok {fn : Func} {tmps : Array Value} {R : Ending → World → Prop} {D A E Rb : Nat} {w : World} (hE : w.heap[E]? = some (.cells #[.int .i64 0] 27 (0, 0)))
    (hR : ∃ v, (results fn tmps).run Tryd.prog w = .ok v w ∧ R (.returned v) w) :
    bodyPostD Tryd.prog fn R Exit.ret { tmps := tmps, defers := [dfC E, dfD E Rb D A] } w := by
  refine leaves_cons (f := 25) (args := #[.pointer (some ⟨E, 0, none⟩)]) (by simp) (by simp [go_sem]) ?_
  refine (caught_ok E w).mono ?_
  rintro e u' w1 ⟨rfl, rfl, rfl⟩
  show Leaves _ _ _ _ _ (settle .returning) w1
  rw [show settle .returning = .returning from rfl]
  refine leaves_cons (f := 24) (args := #[.pointer (some ⟨E, 0, none⟩), .pointer (some ⟨Rb, 0, none⟩), .pointer (some ⟨D, 0, none⟩), .pointer (some ⟨A, 0, none⟩)]) (by simp) (by simp [go_sem]) ?_
  refine (doc1_ok E Rb D A _ w1 hE).mono ?_
  rintro e u'' w2 ⟨rfl, rfl, rfl⟩
  exact hR
end Go.Proofs.YtgephneppgcnlaaDoor
