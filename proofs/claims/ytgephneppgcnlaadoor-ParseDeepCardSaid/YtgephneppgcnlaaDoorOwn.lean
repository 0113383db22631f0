/- Rows that a call owns, of things of any size: append, for the walk. Whole structs stored into their boxes. Over any program. -/
import Derived.Test.YtgephneppgcnlaaDoorKit
import Derived.Maps.AppendAt
import Derived.Deep.MidRow
namespace Go.Proofs.YtgephneppgcnlaaDoor
open Go Go.RowKit
set_option linter.unusedVariables false
set_option linter.unusedSimpArgs false
section
variable {P : Program} {ops : Array Oper} {Q : Exit → Act → World → Prop}

theorem own_form {w : World} {B : Nat} {e : TypeId} {size : Nat} {v : Value} {n : Nat} {xs : List Value} (h : w.ownsRow B e size v n xs) : ∃ a c, v = .slice a n c ∧ n ≤ c ∧ c ≤ maxLen ∧ ∀ k, v.ownBlock = some k → B ≤ k ∧ k < w.heap.size := by
  obtain ⟨h1, h2⟩ := h
  rcases h2 with ⟨rfl, rfl⟩ | ⟨g, cap, cur, rfl, hg, hh, r1, r2, _⟩
  · exact ⟨none, 0, rfl, Nat.le_refl _, Nat.zero_le _, fun k hk => by cases hk⟩
  · refine ⟨_, _, rfl, r1, r2, fun k hk => ?_⟩
    injection hk with hk; subst hk
    exact ⟨hg, (Array.getElem?_eq_some_iff.1 hh).1⟩
theorem own_only' {S : Nat → Prop} {w w' : World} {base : Nat} {e : TypeId} {size : Nat} {v : Value} {n : Nat} {xs : List Value} (h : w.ownsRow base e size v n xs) (ho : Only S w w') (hS : ∀ k, v.ownBlock = some k → ¬ S k) : w'.ownsRow base e size v n xs := by
  obtain ⟨h1, h2⟩ := h
  refine ⟨h1, ?_⟩
  rcases h2 with h2 | ⟨g, cap, cur, rfl, hg, hh, r⟩
  · exact Or.inl h2
  · exact Or.inr ⟨g, cap, cur, rfl, hg, by rw [ho.block _ (Array.getElem?_eq_some_iff.1 hh).1 (hS g rfl)]; exact hh, r⟩
theorem own_mono {w : World} {B C : Nat} {e : TypeId} {size : Nat} {v : Value} {n : Nat} {xs : List Value} (h : w.ownsRow B e size v n xs) (hC : C ≤ B) : w.ownsRow C e size v n xs := by
  obtain ⟨h1, h2⟩ := h
  refine ⟨h1, ?_⟩
  rcases h2 with h2 | ⟨g, cap, cur, hv, hg, r⟩
  · exact Or.inl h2
  · exact Or.inr ⟨g, cap, cur, hv, by omega, r⟩
/-- Where such a row lies. -/
theorem own_range {w : World} {B : Nat} {e : TypeId} {size : Nat} {v : Value} {n : Nat} {xs : List Value} (h : w.ownsRow B e size v n xs) (hn : 0 < n) : ∃ g c, v = .slice (some ⟨g, 0, none⟩) n c ∧ B ≤ g ∧ g < w.heap.size ∧ w.rangeAt g 0 xs := by
  obtain ⟨h1, h2⟩ := h
  rcases h2 with ⟨_, h0⟩ | ⟨g, cap, cur, rfl, hg, hh, h3, h4, h5, h6⟩
  · omega
  · refine ⟨g, cap, rfl, hg, (Array.getElem?_eq_some_iff.1 hh).1, fun j v hv => ?_⟩
    simp only [World.cell?, hh]
    rw [Nat.zero_add]
    rw [← h6, List.getElem?_take] at hv
    split at hv
    · simpa using hv
    · cases hv
theorem own_nil (w : World) (B : Nat) (e : TypeId) (size : Nat) : w.ownsRow B e size (.slice none 0 0) 0 [] := ⟨by simp, .inl ⟨rfl, rfl⟩⟩
/-- append of things that lie in a row of their own. -/
theorem wpList_append_own2 {w : World} {rest : List Oper} {o : Oper} {a : Act} (hgd : o.guard = none) (s x : Operand) (T E : TypeId)
    (ho : o.op = .call { callee := .builtin .append, args := #[s, x], argTypes := #[T, T] }) (hu : P.underlying T = some (.slice E)) {z : Value} {size bytes : Nat} (hi : (P.info? E).map (fun i => (i.zero, i.size, i.bytes)) = some (some z, size, bytes)) (hzs : z.cells.size = size) (hsz : 0 < size)
    (B : Nat) (v : Value) (n m c : Nat) (xs ys : List Value) (ad : Addr) (hs : a.eval s = v) (hx : a.eval x = .slice (some ad) m c) (hown : w.ownsRow B E size v n xs) (hl : ys.length = m * size) (hys : ∀ j u, ys[j]? = some u → w.cell? (ad.add j) = some u) (h1 : ∀ u ∈ ys, u.oneCell' = true)
    (hb1 : n + m ≤ maxLen) (hb2 : (n + m) * bytes ≤ 140737488355328) (hB : B ≤ w.heap.size)
    (h : ∀ v' w', w'.ownsRow B E size v' (n + m) (xs ++ ys) → Only (fun k => v.ownBlock = some k) w w' → (∀ k, v'.ownBlock = some k → v.ownBlock = some k ∨ w.heap.size ≤ k) → wpList P ops Q rest (a.put o.dst v') w') : wpList P ops Q (o :: rest) a w := by
  obtain ⟨i0, hi, hz0, hz1, hz2⟩ := info_parts hi
  refine wpList_plain hgd fun K hK => ?_
  obtain ⟨v', w', hr, g1, g2, _, g3⟩ := run_append_own_at (P := P) (w := w) B T o.type E i0 z size bytes hu hi hz0 hz1 hz2 hzs hsz v n xs hown ad m c ys hl hys h1 hb1 hb2 hB
  unfold Oper.wp execOp
  simp only [ho, resolve, invoke, builtin, Sem.run_bind, Sem.run_pure, Result.andThen_ok, List.map_toArray, List.map_cons, List.map_nil, hs, hx, hr]
  exact hK _ _ (h v' w' g1 ((Only.refl (fun k => v.ownBlock = some k) w).grown g2 (fun k hk => .inl hk)) (fun k hk => by
    rcases g3 with g | g
    · exact .inl (g ▸ hk)
    · rw [g] at hk; injection hk with hk; exact .inr (Nat.le_of_eq hk)))

/-! ### A whole struct stored into its box -/
theorem setCells_heap : ∀ (vs : List Value) (w : World) (b : Nat) (pre old post : List Value) (T : TypeId) (fr : Nat × Nat), old.length = vs.length → w.heap[b]? = some (.cells (pre ++ old ++ post).toArray T fr) → (w.setCells b pre.length vs).heap[b]? = some (.cells (pre ++ vs ++ post).toArray T fr)
  | [], w, b, pre, old, post, T, fr, hl, h => by
    have : old = [] := List.eq_nil_of_length_eq_zero (by simpa using hl)
    subst this
    exact h
  | v :: vs, w, b, pre, old, post, T, fr, hl, h => by
    cases old with
    | nil => simp at hl
    | cons u old =>
      rw [World.setCells]
      have h1 := heap_set (o := pre.length) h v
      have e : (pre ++ u :: old ++ post).toArray.setIfInBounds pre.length v = ((pre ++ [v]) ++ old ++ post).toArray := by
        simp
      rw [e] at h1
      have h2 := setCells_heap vs (w.setCell ⟨b, pre.length, none⟩ v) b (pre ++ [v]) old post T fr (by simpa using hl) h1
      rw [show (pre ++ [v]).length = pre.length + 1 from by simp] at h2
      rw [h2]; simp
theorem setCells_only : ∀ (vs : List Value) (w : World) (b o : Nat), Only (fun k => k = b) w (w.setCells b o vs)
  | [], w, b, o => Only.refl _ _
  | v :: vs, w, b, o => by
    rw [World.setCells]
    exact ((Only.refl (fun k => k = b) w).setCell (p := ⟨b, o, none⟩) (.inl rfl) v).trans (setCells_only vs _ b (o + 1))
theorem wpList_store_box {w : World} {rest : List Oper} {o : Oper} {a : Act} (hgd : o.guard = none) (T : TypeId) (x y : Operand) (ho : o.op = .store T x y)
    (b : Nat) (old new : List Value) (hx : a.eval x = .pointer (some ⟨b, 0, none⟩)) (hy : a.eval y = .agg new.toArray) (hb : w.heap[b]? = some (.cells old.toArray T (0, 0))) (hl : old.length = new.length)
    (hi : (P.info? T).map (·.size) = some new.length) (h1 : ∀ v ∈ new, v.oneCell' = true)
    (h : ∀ w', w'.heap[b]? = some (.cells new.toArray T (0, 0)) → Only (fun k => k = b) w w' → wpList P ops Q rest (a.put o.dst undef) w') : wpList P ops Q (o :: rest) a w := by
  refine wpList_store_mid hgd T x y ho b 0 new.toArray hx hy (fun j hj => ?_) (by simpa using hi) (all_oneCell_toArray h1) (h _ ?_ ?_)
  · have hj' : j < old.length := by simpa [hl] using hj
    constructor
    · rw [Nat.zero_add]
      simp [World.cell?, hb, hj']
    · simp [World.frozen?, hb]
  · have := setCells_heap new w b [] old [] T (0, 0) hl (by simpa using hb)
    simpa using this
  · simpa using setCells_only new w b 0
end
end Go.Proofs.YtgephneppgcnlaaDoor
