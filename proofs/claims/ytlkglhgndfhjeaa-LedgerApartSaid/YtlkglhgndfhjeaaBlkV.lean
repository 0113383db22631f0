/- Package block, in plain Lean: what a disk reads as ('view'), and what each call does to it. -/
import Derived.Test.YtlkglhgndfhjeaaBlkT
namespace Go.Proofs.Ytlkglhgndfhjeaa
open Go Go.RowKit
set_option linter.unusedVariables false
set_option linter.unusedSimpArgs false

def view (st : Dk) : List (List UInt8) := settled st.sure st.wait
theorem settled_append (s : List (List UInt8)) (a b : List (Int × List UInt8)) : settled s (a ++ b) = settled (settled s a) b := by simp [settled]
theorem settled_one (s : List (List UInt8)) (p : Int × List UInt8) : settled s [p] = s.set p.1.toNat p.2 := rfl
theorem view_len (st : Dk) : (view st).length = st.sure.length := settled_len _ _
theorem view_begun (st : Dk) : view (begun st) = view st := by unfold view; rw [begun_wait, begun_sure]
theorem view_wrote (st : Dk) (i : Int) (l : List UInt8) : view (wrote st i l) = (view st).set i.toNat (pad64 l) := by
  show settled (begun st).sure ((begun st).wait ++ [(i, pad64 l)]) = _
  rw [settled_append, begun_sure, begun_wait]; rfl
theorem view_settleD (st : Dk) (n : Nat) : view (settleD st n) = settled st.sure (st.wait.take n) := rfl
theorem view_synced (st : Dk) : view (synced st) = view st := by
  unfold synced
  by_cases h : (begun st).off
  · rw [if_pos h, view_begun]
  · rw [if_neg h, view_settleD, List.take_length, begun_sure, begun_wait]; rfl
theorem settled_all64 {s : List (List UInt8)} {l : List (Int × List UInt8)} (hs : ∀ r ∈ s, r.length = 64) (hl : ∀ p ∈ l, p.2.length = 64) : ∀ r ∈ settled s l, r.length = 64 := by
  induction l generalizing s with
  | nil => exact hs
  | cons p l ih =>
    refine ih ?_ (fun q hq => hl q (List.mem_cons_of_mem _ hq))
    intro r hr
    rcases List.mem_or_eq_of_mem_set hr with h | h
    · exact hs r h
    · rw [h]; exact hl p (List.mem_cons_self ..)

theorem begun_armed0 (st : Dk) (h : st.armed = 0) : begun st = { st with ops := st.ops + 1 } := by unfold begun; rw [if_neg (by omega)]
theorem Fine.begun {st : Dk} {m : Nat} (h : Fine st m) (hm : m + 1 ≤ 1000000000) : Fine (begun st) (m + 1) := by
  refine ⟨?_, ?_, ?_, ?_, hm⟩
  · rw [begun_ops]; have := h.ops; omega
  · have := h.armed
    unfold Go.Proofs.Ytlkglhgndfhjeaa.begun
    by_cases h0 : 0 < st.armed
    · rw [if_pos h0]; exact ⟨by show 0 ≤ st.armed - 1; omega, by show st.armed - 1 ≤ _; omega⟩
    · rw [if_neg h0]; exact this
  · rw [begun_wait]; have := h.wait; omega
  · rw [begun_wait, begun_sure]; exact h.ix
theorem Fine.wrote {st : Dk} {m : Nat} (h : Fine st m) (hm : m + 1 ≤ 1000000000) {i : Int} (hi : 0 ≤ i ∧ i < st.sure.length) (l : List UInt8) : Fine (wrote st i l) (m + 1) := by
  have hb := h.begun hm
  refine ⟨hb.ops, hb.armed, ?_, ?_, hm⟩
  · show ((Go.Proofs.Ytlkglhgndfhjeaa.begun st).wait ++ [(i, pad64 l)]).length ≤ _
    rw [begun_wait, List.length_append]; have := h.wait; simp; omega
  · intro p hp
    have hp' : p ∈ (Go.Proofs.Ytlkglhgndfhjeaa.begun st).wait ++ [(i, pad64 l)] := hp
    show 0 ≤ p.1 ∧ p.1 < (Go.Proofs.Ytlkglhgndfhjeaa.begun st).sure.length
    rw [begun_wait, List.mem_append] at hp'
    rw [begun_sure]
    rcases hp' with h' | h'
    · exact h.ix p h'
    · simp at h'; subst h'; exact hi
theorem Fine.synced {st : Dk} {m : Nat} (h : Fine st m) (hm : m + 1 ≤ 1000000000) : Fine (synced st) (m + 1) := by
  have hb := h.begun hm
  unfold Go.Proofs.Ytlkglhgndfhjeaa.synced
  by_cases ho : (Go.Proofs.Ytlkglhgndfhjeaa.begun st).off
  · rw [if_pos ho]; exact hb
  · rw [if_neg ho]
    exact ⟨hb.ops, hb.armed, Nat.zero_le _, (fun p hp => by cases hp), hm⟩
theorem Fine.mono {st : Dk} {m k : Nat} (h : Fine st m) (hk : m ≤ k) (hm : k ≤ 1000000000) : Fine st k :=
  ⟨⟨h.ops.1, by have := h.ops.2; omega⟩, h.armed, Nat.le_trans h.wait hk, h.ix, hm⟩
theorem Fine.fresh (n : Nat) : Fine (fresh n) 0 := ⟨⟨Int.le_refl _, Int.le_refl _⟩, ⟨Int.le_refl _, (by decide : (0 : Int) ≤ 9223372036854775807)⟩, Nat.le_refl _, fun p hp => (by cases hp), by decide⟩

/-- The power goes off and on: the first 'keep' writes are done, of the next one the first 'torn' bytes. -/
def kept (st : Dk) (keep : Int) : Nat := (min (max keep 0) st.wait.length).toNat
def cut64 (torn : Int) : Nat := (min (max torn 0) 64).toNat
def tornS (s : List (List UInt8)) (o : Option (Int × List UInt8)) (t : Nat) : List (List UInt8) :=
  match o with
  | none => s
  | some p => s.set p.1.toNat (p.2.take t ++ (s.getD p.1.toNat []).drop t)
def restarted (st : Dk) (keep torn : Int) : Dk :=
  { sure := tornS (settled st.sure (st.wait.take (kept st keep))) st.wait[kept st keep]? (cut64 torn), wait := [], ops := st.ops, armed := 0, off := false }
theorem tornS_len (s : List (List UInt8)) (o : Option (Int × List UInt8)) (t : Nat) : (tornS s o t).length = s.length := by cases o <;> simp [tornS]
theorem restarted_len (st : Dk) (keep torn : Int) : (restarted st keep torn).sure.length = st.sure.length := by
  show (tornS _ _ _).length = _
  rw [tornS_len, settled_len]
theorem Fine.restarted {st : Dk} {m : Nat} (h : Fine st m) (keep torn : Int) : Fine (restarted st keep torn) m :=
  ⟨h.ops, ⟨Int.le_refl _, (by decide : (0 : Int) ≤ 9223372036854775807)⟩, Nat.zero_le _, fun p hp => (by cases hp), h.small⟩
theorem view_restarted (st : Dk) (keep torn : Int) : view (restarted st keep torn) = tornS (settled st.sure (st.wait.take (kept st keep))) st.wait[kept st keep]? (cut64 torn) := rfl
theorem restart_still (st : Dk) (keep torn : Int) (h : st.wait = []) : view (restarted st keep torn) = view st := by
  rw [view_restarted]; unfold view; rw [h]; simp [tornS, settled]
theorem kept_le (st : Dk) (keep : Int) : kept st keep ≤ st.wait.length := by unfold kept; omega
theorem cut64_le (torn : Int) : cut64 torn ≤ 64 := by unfold cut64; omega
end Go.Proofs.Ytlkglhgndfhjeaa
