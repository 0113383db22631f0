/- The reference's disk (columbaryref01) in memory. -/
import Derived.Test.YtlkglhgndfhjeaaBlkP
import Derived.Test.YtlkglhgndfhjeaaOwnB
import Derived.Test.YtlkglhgndfhjeaaReg
namespace Go.Proofs.Ytlkglhgndfhjeaa
open Go Go.RowKit
set_option linter.unusedVariables false
set_option linter.unusedSimpArgs false
set_option maxRecDepth 100000

def strR (l : List UInt8) : Value := .string ⟨l.toArray⟩
def wr2 (p : Int × List UInt8) : List Value := [.int .i64 p.1, strR p.2]
theorem own_set1 {w : World} {B : Nat} {e : TypeId} {v : Value} {n : Nat} {xs : List Value} (h : w.ownsRow B e 1 v n xs) {g : Nat} (hg : v.ownBlock = some g) {i : Nat} (hi : i < n) (x : Value) : (w.setCell ⟨g, i, none⟩ x).ownsRow B e 1 v n (xs.set i x) := by
  obtain ⟨h1, h2⟩ := h
  refine ⟨by simpa using h1, ?_⟩
  rcases h2 with ⟨rfl, rfl⟩ | ⟨g', cap, cur, rfl, hB, hh, h3, h4, h5, h6⟩
  · omega
  · have hg' : g' = g := by simpa [Value.ownBlock] using hg
    subst hg'
    refine .inr ⟨g', cap, cur.setIfInBounds i x, rfl, hB, heap_set (o := i) hh x, h3, h4, by simpa using h5, ?_⟩
    rw [Array.toList_setIfInBounds, List.take_set, h6]
/-- The reference's disk at b has the state st. -/
def RkAt (w : World) (F : Nat → Prop) (b : Nat) (st : Dk) : Prop :=
  F b ∧ st.sure.length ≤ 4096 ∧ (∀ r ∈ st.sure, r.length = 64) ∧ (∀ p ∈ st.wait, p.2.length = 64) ∧ ∃ (vS vL : Value),
    w.heap[b]? = some (.cells #[vS, vL, .int .i64 st.ops, .int .i64 st.armed, .bool st.off] 50 (0, 0)) ∧
    w.ownsRow 0 9 1 vS st.sure.length (st.sure.map strR) ∧ w.ownsRow 0 88 2 vL st.wait.length (st.wait.map wr2).flatten ∧
    (∀ k, vS.ownBlock = some k → k ≠ b ∧ F k) ∧ (∀ k, vL.ownBlock = some k → k ≠ b ∧ F k) ∧ ∀ k, vS.ownBlock = some k → vL.ownBlock ≠ some k
theorem RkAt.only {S F : Nat → Prop} {w w' : World} {b : Nat} {st : Dk} (h : RkAt w F b st) (ho : Only S w w') (hS : ∀ k, F k → k < w.heap.size → ¬ S k) : RkAt w' F b st := by
  obtain ⟨h1, h2, h2a, h2b, vS, vL, h3, h4, h5, h6, h7, h8⟩ := h
  have hlt := (Array.getElem?_eq_some_iff.1 h3).1
  refine ⟨h1, h2, h2a, h2b, vS, vL, by rw [ho.block _ hlt (hS _ h1 hlt)]; exact h3, own_only' h4 ho (fun k hk => hS k (h6 k hk).2 ?_), own_only' h5 ho (fun k hk => hS k (h7 k hk).2 ?_), h6, h7, h8⟩
  · exact ((own_form h4).choose_spec.choose_spec.2.2.2 k hk).2
  · exact ((own_form h5).choose_spec.choose_spec.2.2.2 k hk).2
theorem RkAt.mono {F G : Nat → Prop} {w : World} {b : Nat} {st : Dk} (h : RkAt w F b st) (hG : ∀ k, F k → G k) : RkAt w G b st := by
  obtain ⟨h1, h2, h2a, h2b, vS, vL, h3, h4, h5, h6, h7, h8⟩ := h
  exact ⟨hG _ h1, h2, h2a, h2b, vS, vL, h3, h4, h5, fun k hk => ⟨(h6 k hk).1, hG _ (h6 k hk).2⟩, fun k hk => ⟨(h7 k hk).1, hG _ (h7 k hk).2⟩, h8⟩
theorem RkAt.strict {F : Nat → Prop} {w : World} {b : Nat} {st : Dk} (h : RkAt w F b st) : RkAt w (fun k => F k ∧ k < w.heap.size) b st := by
  obtain ⟨h1, h2, h2a, h2b, vS, vL, h3, h4, h5, h6, h7, h8⟩ := h
  exact ⟨⟨h1, (Array.getElem?_eq_some_iff.1 h3).1⟩, h2, h2a, h2b, vS, vL, h3, h4, h5, fun k hk => ⟨(h6 k hk).1, (h6 k hk).2, ((own_form h4).choose_spec.choose_spec.2.2.2 k hk).2⟩, fun k hk => ⟨(h7 k hk).1, (h7 k hk).2, ((own_form h5).choose_spec.choose_spec.2.2.2 k hk).2⟩, h8⟩
theorem RkAt.lt {F : Nat → Prop} {w : World} {b : Nat} {st : Dk} (h : RkAt w F b st) : b < w.heap.size := by
  obtain ⟨h1, h2, h2a, h2b, vS, vL, h3, h4, h5, h6, h7, h8⟩ := h
  exact (Array.getElem?_eq_some_iff.1 h3).1
/-- What the walk is told of the fields. -/
theorem RkAt.cells {F : Nat → Prop} {w : World} {b : Nat} {st : Dk} (h : RkAt w F b st) :
    ∃ (aS aL : Option Addr) (cS cL : Nat), w.cell? ⟨b, 0, none⟩ = some (.slice aS st.sure.length cS) ∧ w.cell? ⟨b, 1, none⟩ = some (.slice aL st.wait.length cL) ∧ w.cell? ⟨b, 2, none⟩ = some (.int .i64 st.ops) ∧ w.cell? ⟨b, 3, none⟩ = some (.int .i64 st.armed) ∧ w.cell? ⟨b, 4, none⟩ = some (.bool st.off) ∧ (∀ o, w.frozen? ⟨b, o, none⟩ = false) ∧
      w.ownsRow 0 9 1 (.slice aS st.sure.length cS) st.sure.length (st.sure.map strR) ∧ w.ownsRow 0 88 2 (.slice aL st.wait.length cL) st.wait.length (st.wait.map wr2).flatten := by
  obtain ⟨h1, h2, h2a, h2b, vS, vL, h3, h4, h5, h6, h7, h8⟩ := h
  obtain ⟨aS, cS, rfl, _⟩ := own_form h4
  obtain ⟨aL, cL, rfl, _⟩ := own_form h5
  exact ⟨aS, aL, cS, cL, by simp [World.cell?, h3], by simp [World.cell?, h3], by simp [World.cell?, h3], by simp [World.cell?, h3], by simp [World.cell?, h3], fun o => by simp [World.frozen?, h3], h4, h5⟩
/-- A string of the durable ones. -/
theorem sure_cell {w : World} {a : Option Addr} {n c : Nat} {l : List (List UInt8)} (h : w.ownsRow 0 9 1 (.slice a n c) n (l.map strR)) (hn : l.length = n) {i : Nat} (hi : i < l.length) : ∃ g, a = some ⟨g, 0, none⟩ ∧ g < w.heap.size ∧ w.cell? ⟨g, i, none⟩ = some (.string ⟨(l[i]).toArray⟩) := by
  obtain ⟨g, c', e, _, h2, h3⟩ := own_range h (by omega)
  injection e with e1 _ e3
  subst e1
  have := h3 i (strR l[i]) (by simp [hi])
  rw [Nat.zero_add] at this
  exact ⟨g, rfl, h2, this⟩
theorem wr2_flat : ∀ (l : List (Int × List UInt8)) (i : Nat) (hi : i < l.length), (l.map wr2).flatten[i * 2]? = some (.int .i64 l[i].1) ∧ (l.map wr2).flatten[i * 2 + 1]? = some (strR l[i].2)
  | [], i, hi => absurd hi (by simp)
  | p :: l, 0, _ => by simp [wr2]
  | p :: l, i + 1, hi => by
    have h := wr2_flat l i (by simpa using hi)
    have e1 : ((p :: l).map wr2).flatten = .int .i64 p.1 :: strR p.2 :: (l.map wr2).flatten := by simp [wr2]
    rw [e1, show (i + 1) * 2 = i * 2 + 1 + 1 from by omega]
    simpa using h
/-- A write that waits. -/
theorem wait_cell {w : World} {a : Option Addr} {n c : Nat} {l : List (Int × List UInt8)} (h : w.ownsRow 0 88 2 (.slice a n c) n (l.map wr2).flatten) (hn : l.length = n) {i : Nat} (hi : i < l.length) : ∃ g, a = some ⟨g, 0, none⟩ ∧ g < w.heap.size ∧ w.cell? ⟨g, i * 2, none⟩ = some (.int .i64 l[i].1) ∧ w.cell? ⟨g, i * 2 + 1, none⟩ = some (.string ⟨(l[i].2).toArray⟩) := by
  obtain ⟨g, c', e, _, h2, h3⟩ := own_range h (by omega)
  injection e with e1 _ e3
  subst e1
  obtain ⟨f1, f2⟩ := wr2_flat l i hi
  have g1 := h3 (i * 2) _ f1
  have g2 := h3 (i * 2 + 1) _ f2
  rw [Nat.zero_add] at g1 g2
  exact ⟨g, rfl, h2, g1, g2⟩
theorem RkAt.setOps {F : Nat → Prop} {w : World} {b : Nat} {st : Dk} (h : RkAt w F b st) (n : Int) : RkAt (w.setCell ⟨b, 2, none⟩ (.int .i64 n)) F b { st with ops := n } := by
  obtain ⟨h1, h2, h2a, h2b, vS, vL, h3, h4, h5, h6, h7, h8⟩ := h
  have o := (Only.refl (fun k => k = b) w).setCell (p := ⟨b, 2, none⟩) (.inl rfl) (.int .i64 n)
  exact ⟨h1, h2, h2a, h2b, vS, vL, heap_set (o := 2) h3 _, own_only' h4 o (fun k hk e => (h6 k hk).1 e), own_only' h5 o (fun k hk e => (h7 k hk).1 e), h6, h7, h8⟩
theorem RkAt.setArmed {F : Nat → Prop} {w : World} {b : Nat} {st : Dk} (h : RkAt w F b st) (n : Int) : RkAt (w.setCell ⟨b, 3, none⟩ (.int .i64 n)) F b { st with armed := n } := by
  obtain ⟨h1, h2, h2a, h2b, vS, vL, h3, h4, h5, h6, h7, h8⟩ := h
  have o := (Only.refl (fun k => k = b) w).setCell (p := ⟨b, 3, none⟩) (.inl rfl) (.int .i64 n)
  exact ⟨h1, h2, h2a, h2b, vS, vL, heap_set (o := 3) h3 _, own_only' h4 o (fun k hk e => (h6 k hk).1 e), own_only' h5 o (fun k hk e => (h7 k hk).1 e), h6, h7, h8⟩
theorem RkAt.setOff {F : Nat → Prop} {w : World} {b : Nat} {st : Dk} (h : RkAt w F b st) (n : Bool) : RkAt (w.setCell ⟨b, 4, none⟩ (.bool n)) F b { st with off := n } := by
  obtain ⟨h1, h2, h2a, h2b, vS, vL, h3, h4, h5, h6, h7, h8⟩ := h
  have o := (Only.refl (fun k => k = b) w).setCell (p := ⟨b, 4, none⟩) (.inl rfl) (.bool n)
  exact ⟨h1, h2, h2a, h2b, vS, vL, heap_set (o := 4) h3 _, own_only' h4 o (fun k hk e => (h6 k hk).1 e), own_only' h5 o (fun k hk e => (h7 k hk).1 e), h6, h7, h8⟩
theorem RkAt.setNil {F : Nat → Prop} {w : World} {b : Nat} {st : Dk} (h : RkAt w F b st) : RkAt (w.setCell ⟨b, 1, none⟩ (.slice none 0 0)) F b { st with wait := [] } := by
  obtain ⟨h1, h2, h2a, h2b, vS, vL, h3, h4, h5, h6, h7, h8⟩ := h
  have o := (Only.refl (fun k => k = b) w).setCell (p := ⟨b, 1, none⟩) (.inl rfl) (.slice none 0 0)
  exact ⟨h1, h2, h2a, (fun p hp => by cases hp), vS, .slice none 0 0, heap_set (o := 1) h3 _, own_only' h4 o (fun k hk e => (h6 k hk).1 e), own_nil _ _ _ _, h6, (fun k hk => by cases hk), fun k _ hk => by cases hk⟩
/-- One of the durable strings written anew. -/
theorem RkAt.setSure {F : Nat → Prop} {w : World} {b : Nat} {st : Dk} (h : RkAt w F b st) {g : Nat} {n c : Nat} (hc : w.cell? ⟨b, 0, none⟩ = some (.slice (some ⟨g, 0, none⟩) n c)) {i : Nat} (hi : i < st.sure.length) (p : List UInt8) (hp : p.length = 64) : RkAt (w.setCell ⟨g, i, none⟩ (.string ⟨p.toArray⟩)) F b { st with sure := st.sure.set i p } ∧ F g := by
  obtain ⟨h1, h2, h2a, h2b, vS, vL, h3, h4, h5, h6, h7, h8⟩ := h
  have e : vS = .slice (some ⟨g, 0, none⟩) n c := by simpa [World.cell?, h3] using hc
  subst e
  have hg : (Value.slice (some ⟨g, 0, none⟩) n c).ownBlock = some g := rfl
  have o := (Only.refl (fun k => k = g) w).setCell (p := ⟨g, i, none⟩) (.inl rfl) (.string ⟨p.toArray⟩)
  have h4' := own_set1 h4 hg hi (.string ⟨p.toArray⟩)
  refine ⟨⟨h1, by simpa using h2, fun r hr => ?_, h2b, _, vL, heap_set_ne h3 (Ne.symm (h6 g hg).1) _, ?_, own_only' h5 o (fun k hk e => h8 g hg (e ▸ hk)), h6, h7, h8⟩, (h6 g hg).2⟩
  · rcases List.mem_or_eq_of_mem_set hr with h | rfl
    · exact h2a r h
    · exact hp
  · show World.ownsRow _ 0 _ 1 _ (st.sure.set i p).length ((st.sure.set i p).map strR)
    rw [List.length_set, List.map_set]
    exact h4'
end Go.Proofs.Ytlkglhgndfhjeaa
