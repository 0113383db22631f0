/- Regions in which one goroutine sends, receives or selects over a channel that has room, or holds something: one step of the machine each. Over no program. -/
import Derived.Conc.LoneSelect
import Derived.Conc.LoneSelectN
import Derived.Test.YtalikihdckknoaaKit
namespace Go.Proofs.Ytalikihdckknoaa
open Go Go.RowKit Go.Conc
set_option linter.unusedVariables false
set_option linter.unusedSimpArgs false

section
variable {P : Program} {b : Frame} {a : Act} {k : List Item} {cs : List Frame} {w w' : World} {ops : Array Oper} {i : Nat} {rest : List Nat} {o : Oper} {v : Value}
theorem fin_at (ho : ops[i]? = some o) : (b.at a (.inRegion ops (i :: rest) :: k)).finish v = b.at (a.put o.dst v) (.inRegion ops rest :: k) := by
  rw [Frame.finish_at, ho]; rfl
/-- An operation that yields a value. -/
theorem one_value (ho : ops[i]? = some o) (hg : o.guard = none) (hr : (execOp a.eval o).run P w = .ok (.value v) w') :
    Steps P (lone (b.at a (.inRegion ops (i :: rest) :: k)) cs w) (lone (b.at (a.put o.dst v) (.inRegion ops rest :: k)) cs w') := by
  have hw : Region.wanted o (yielded ops a.tmps) = true := by simp [Region.wanted, hg]
  have hs := stepG_op (P := P) (b := b) (k := k) (cs := cs) (w := w) (rest := rest) ho hw
  refine .one (step_lone_go ?_)
  rw [hs, ← fin_at ho]
  simp [stepG.apply, hr]
/-- A communication: what the step of the machine is handed. -/
theorem comm_at {cases : Array CommCase} {bl : Bool} {sh : CommShape} (ho : ops[i]? = some o) (hg : o.guard = none) (hr : (execOp a.eval o).run P w = .ok (.comm cases bl sh) w') :
    ∃ es, stepG P true (G (b.at a (.inRegion ops (i :: rest) :: k)) cs) w = .comm (G (b.at a (.inRegion ops (i :: rest) :: k)) cs) cases bl sh w' es := by
  have hw : Region.wanted o (yielded ops a.tmps) = true := by simp [Region.wanted, hg]
  have hs := stepG_op (P := P) (b := b) (k := k) (cs := cs) (w := w) (rest := rest) ho hw
  unfold G
  rw [hs]
  simp only [stepG.apply, Sem.runT_eq, hr]
  exact ⟨_, rfl⟩
end

/-- From the list l of a region's operations on: it comes to an exit of which Q holds. -/
def RW (P : Program) (ops : Array Oper) (Q : Exit → Act → World → Prop) (l : List Nat) (a : Act) (w : World) : Prop :=
  ∀ (b : Frame) (k : List Item) (cs : List Frame), ∃ e a' w', Q e a' w' ∧ Arrives P (lone (b.at a (.inRegion ops l :: k)) cs w) b k cs e a' w'

section
variable {P : Program} {Q : Exit → Act → World → Prop} {a : Act} {w w' : World} {ops : Array Oper} {i : Nat} {rest : List Nat} {o : Oper} {v : Value}
theorem wp_region_rw {id : Nat} (h : RW P ops Q (List.range ops.size) a w) : (Code.region id ops false).wp P Q a w :=
  fun b k cs => let ⟨e, a', w', q, r⟩ := h b k cs; ⟨e, a', w', q, .of_steps (.one step_region) r⟩
theorem rw_nil (h : Q .normal a w) : RW P ops Q [] a w := fun _ _ _ => ⟨.normal, a, w, h, .one step_region_end⟩
theorem rw_ops {l : List Nat} (h : wpOps P ops Q l a w) : RW P ops Q l a w := wp_ops l a w h
theorem rw_one {o1 : Oper} (h1 : ops[i]? = some o1) (h : wpList P ops Q [o1] a w) : RW P ops Q [i] a w :=
  rw_ops (by simp only [wpOps, h1]; exact h)
theorem rw_two {j : Nat} {o1 o2 : Oper} (h1 : ops[i]? = some o1) (h2 : ops[j]? = some o2) (h : wpList P ops Q [o1, o2] a w) : RW P ops Q [i, j] a w :=
  rw_ops (by simp only [wpOps, h1, h2]; exact h)
theorem rw_value (ho : ops[i]? = some o) (hg : o.guard = none) (hr : (execOp a.eval o).run P w = .ok (.value v) w') (h : RW P ops Q rest (a.put o.dst v) w') : RW P ops Q (i :: rest) a w :=
  fun b k cs => let ⟨e, a', w', q, r⟩ := h b k cs; ⟨e, a', w', q, .of_steps (one_value ho hg hr) r⟩
theorem rw_same (v : Value) (ho : ops[i]? = some o) (hg : o.guard = none) (hr : (execOp a.eval o).run P w = .ok (.value v) w) (h : RW P ops Q rest (a.put o.dst v) w) : RW P ops Q (i :: rest) a w :=
  rw_value ho hg hr h
variable {c cap s r : Nat} {buf : Array Value} {z : Value} {tm closed : Bool}
theorem rw_send (ho : ops[i]? = some o) (hg : o.guard = none) (hr : (execOp a.eval o).run P w = .ok (.comm #[scase c v z] true .send) w) (hc : w.heap[c]? = some (.chan cap buf false s r tm)) (hroom : buf.size < cap)
    (h : RW P ops Q rest (a.put o.dst undef) (w.setChan c cap (buf.push v) false (s + 1) r tm)) : RW P ops Q (i :: rest) a w := fun b k cs => by
  obtain ⟨es, hs⟩ := comm_at (b := b) (k := k) (cs := cs) (rest := rest) ho hg hr
  obtain ⟨e, a', w', q, r⟩ := h b k cs
  have hst := step_lone_send_room hs hc hroom
  rw [fin_at ho] at hst
  exact ⟨e, a', w', q, .of_steps (.one hst) r⟩
theorem rw_recv (ho : ops[i]? = some o) (hg : o.guard = none) (hr : (execOp a.eval o).run P w = .ok (.comm #[rcase c z] true (.recv false)) w) (hc : w.heap[c]? = some (.chan cap buf closed s r tm)) (hsome : 0 < buf.size)
    (h : RW P ops Q rest (a.put o.dst (buf.getD 0 undef)) (w.setChan c cap (buf.extract 1 buf.size) closed s (r + 1) tm)) : RW P ops Q (i :: rest) a w := fun b k cs => by
  obtain ⟨es, hs⟩ := comm_at (b := b) (k := k) (cs := cs) (rest := rest) ho hg hr
  obtain ⟨e, a', w', q, r⟩ := h b k cs
  have hst := step_lone_recv_buf false hs hc hsome
  rw [fin_at ho] at hst
  exact ⟨e, a', w', q, .of_steps (.one hst) r⟩
theorem rw_sel_send (ho : ops[i]? = some o) (hg : o.guard = none) (hr : (execOp a.eval o).run P w = .ok (.comm #[scase c v z] false .select) w) (hc : w.heap[c]? = some (.chan cap buf false s r tm)) (hroom : buf.size < cap)
    (h : RW P ops Q rest (a.put o.dst (.tuple #[goInt 0, .bool false])) (w.setChan c cap (buf.push v) false (s + 1) r tm)) : RW P ops Q (i :: rest) a w := fun b k cs => by
  obtain ⟨es, hs⟩ := comm_at (b := b) (k := k) (cs := cs) (rest := rest) ho hg hr
  obtain ⟨e, a', w', q, r⟩ := h b k cs
  have hst := step_lone_select_send_room hs hc hroom
  rw [fin_at ho] at hst
  exact ⟨e, a', w', q, .of_steps (.one hst) r⟩
theorem rw_sel_full (ho : ops[i]? = some o) (hg : o.guard = none) (hr : (execOp a.eval o).run P w = .ok (.comm #[scase c v z] false .select) w) (hc : w.heap[c]? = some (.chan cap buf false s r tm)) (hfull : cap ≤ buf.size)
    (h : RW P ops Q rest (a.put o.dst (.tuple #[goInt (-1), .bool false])) w) : RW P ops Q (i :: rest) a w := fun b k cs => by
  obtain ⟨es, hs⟩ := comm_at (b := b) (k := k) (cs := cs) (rest := rest) ho hg hr
  obtain ⟨e, a', w', q, r⟩ := h b k cs
  have hst := step_lone_select_send_full hs hc hfull
  rw [fin_at ho] at hst
  exact ⟨e, a', w', q, .of_steps (.one hst) r⟩
theorem rw_sel_recv (ho : ops[i]? = some o) (hg : o.guard = none) (hr : (execOp a.eval o).run P w = .ok (.comm #[rcase c z] false .select) w) (hc : w.heap[c]? = some (.chan cap buf closed s r tm)) (hsome : 0 < buf.size)
    (h : RW P ops Q rest (a.put o.dst (.tuple #[goInt 0, .bool true, buf.getD 0 undef])) (w.setChan c cap (buf.extract 1 buf.size) closed s (r + 1) tm)) : RW P ops Q (i :: rest) a w := fun b k cs => by
  obtain ⟨es, hs⟩ := comm_at (b := b) (k := k) (cs := cs) (rest := rest) ho hg hr
  obtain ⟨e, a', w', q, r⟩ := h b k cs
  have hst := step_lone_select_recv_buf hs hc hsome
  rw [fin_at ho] at hst
  exact ⟨e, a', w', q, .of_steps (.one hst) r⟩
theorem rw_sel_none (ho : ops[i]? = some o) (hg : o.guard = none) (hr : (execOp a.eval o).run P w = .ok (.comm #[rcase c z] false .select) w) (hc : w.heap[c]? = some (.chan cap #[] false s r tm))
    (h : RW P ops Q rest (a.put o.dst (.tuple #[goInt (-1), .bool false, z])) w) : RW P ops Q (i :: rest) a w := fun b k cs => by
  obtain ⟨es, hs⟩ := comm_at (b := b) (k := k) (cs := cs) (rest := rest) ho hg hr
  obtain ⟨e, a', w', q, r⟩ := h b k cs
  have hst := step_lone_select_default hs hc
  rw [fin_at ho] at hst
  exact ⟨e, a', w', q, .of_steps (.one hst) r⟩
end
end Go.Proofs.Ytalikihdckknoaa
