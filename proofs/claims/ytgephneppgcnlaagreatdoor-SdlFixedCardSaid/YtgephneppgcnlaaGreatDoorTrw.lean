/- Rows of tokens in memory. -/
import Derived.Test.YtgephneppgcnlaaGreatDoorTks
namespace Go.Proofs.YtgephneppgcnlaaGreatDoor
open Go Go.RowKit
set_option linter.unusedVariables false
set_option linter.unusedSimpArgs false

/-- The tokens ts lie where v says. -/
def TRow (w : World) (v : Value) (ts : List Tok) : Prop :=
  (v = .slice none 0 0 ∧ ts = []) ∨ ∃ g off c, v = .slice (some ⟨g, off, none⟩) ts.length c ∧ ts.length ≤ c ∧ c ≤ maxLen ∧ g < w.heap.size ∧ w.rangeAt g off (toksC ts)
theorem toksC_get : ∀ (ts : List Tok) (i : Nat) (h : i < ts.length) (j : Nat) (v : Value), (tokC ts[i])[j]? = some v → (toksC ts)[i * 4 + j]? = some v
  | [], i, h, _, _, _ => absurd h (by simp)
  | t :: ts, 0, h, j, v, hj => by
    show (tokC t ++ toksC ts)[0 * 4 + j]? = some v
    have hl : j < (tokC t).length := by
      rcases Nat.lt_or_ge j (tokC t).length with h | h
      · exact h
      · rw [List.getElem?_eq_none (by simpa using h)] at hj; cases hj
    rw [Nat.zero_mul, Nat.zero_add, List.getElem?_append_left hl]
    exact hj
  | t :: ts, i + 1, h, j, v, hj => by
    show (tokC t ++ toksC ts)[(i + 1) * 4 + j]? = some v
    have h4 : (tokC t).length = 4 := rfl
    rw [List.getElem?_append_right (by omega), h4, show (i + 1) * 4 + j - 4 = i * 4 + j from by omega]
    exact toksC_get ts i (by simpa using h) j v hj
theorem TRow.at_ {w : World} {v : Value} {ts : List Tok} (h : TRow w v ts) {i : Nat} (hi : i < ts.length) : ∃ g off c, v = .slice (some ⟨g, off, none⟩) ts.length c ∧ ts.length ≤ c ∧ c ≤ maxLen ∧ g < w.heap.size ∧
    ∀ i (hi : i < ts.length), w.cell? ⟨g, off + i * 4, none⟩ = some (.int .u8 (ts[i].kind : Int)) ∧ w.cell? ⟨g, off + i * 4 + 1, none⟩ = some (.string ⟨ts[i].text.toArray⟩) ∧ w.cell? ⟨g, off + i * 4 + 2, none⟩ = some (.int .i64 ts[i].n) ∧ w.cell? ⟨g, off + i * 4 + 3, none⟩ = some (.int .i64 (ts[i].at_ : Int)) := by
  rcases h with ⟨_, rfl⟩ | ⟨g, off, c, h1, h2, h3, h4, h5⟩
  · simp at hi
  · refine ⟨g, off, c, h1, h2, h3, h4, fun i hi => ⟨?_, ?_, ?_, ?_⟩⟩
    · exact h5 (i * 4) _ (by have := toksC_get ts i hi 0 _ rfl; simpa using this)
    · exact h5 (i * 4 + 1) _ (toksC_get ts i hi 1 _ rfl)
    · exact h5 (i * 4 + 2) _ (toksC_get ts i hi 2 _ rfl)
    · exact h5 (i * 4 + 3) _ (toksC_get ts i hi 3 _ rfl)
theorem TRow.of_own {w : World} {B : Nat} {E : TypeId} {v : Value} {ts : List Tok} (h : w.ownsRow B E 4 v ts.length (toksC ts)) (hn : 0 < ts.length) : TRow w v ts := by
  obtain ⟨g, c, hv, _, hg, hr⟩ := own_range h hn
  obtain ⟨a, c', hv', h1, h2, _⟩ := own_form h
  rw [hv] at hv'
  injection hv' with _ _ e
  exact .inr ⟨g, 0, c, hv, by omega, by omega, hg, hr⟩
theorem TRow.only {S : Nat → Prop} {w w' : World} {v : Value} {ts : List Tok} (h : TRow w v ts) (ho : Only S w w') (hS : ∀ a n c, v = .slice (some a) n c → ¬ S a.block) : TRow w' v ts := by
  rcases h with h | ⟨g, off, c, h1, h2, h3, h4, h5⟩
  · exact .inl h
  · refine .inr ⟨g, off, c, h1, h2, h3, Nat.lt_of_lt_of_le h4 ho.size, fun j u hu => ?_⟩
    have := h5 j u hu
    simp only [World.cell?] at this ⊢
    rw [ho.block g h4 (hS _ _ _ h1)]
    exact this
theorem TRow.still {w w' : World} {v : Value} {ts : List Tok} (h : TRow w v ts) (ho : Only (fun _ => False) w w') : TRow w' v ts := h.only ho (fun _ _ _ _ h => h)
/-- The tokens behind so many of them. -/
theorem TRow.drop {w : World} {a : Option Addr} {n c : Nat} {ts : List Tok} (h : TRow w (.slice a n c) ts) {k : Nat} (hk : k < ts.length) : ∃ g off, a = some ⟨g, off, none⟩ ∧ n = ts.length ∧ TRow w (.slice (some ⟨g, off + k * 4, none⟩) (ts.length - k) (c - k)) (ts.drop k) := by
  rcases h with ⟨_, rfl⟩ | ⟨g, off, c', h1, h2, h3, h4, h5⟩
  · simp at hk
  · injection h1 with e1 e2 e3
    subst e3
    refine ⟨g, off, e1, e2, .inr ⟨g, off + k * 4, c - k, by rw [List.length_drop], by rw [List.length_drop]; omega, by omega, h4, fun j u hu => ?_⟩⟩
    have e : toksC ts = toksC (ts.take k) ++ toksC (ts.drop k) := by rw [← toksC_app, List.take_append_drop]
    have := h5 (k * 4 + j) u (by
      have hl : (toksC (ts.take k)).length = k * 4 := by rw [toksC_len, List.length_take]; congr 1; omega
      rw [e, List.getElem?_append_right (by omega), hl, Nat.add_sub_cancel_left]; exact hu)
    rw [Nat.add_assoc]; exact this
theorem TRow.form {w : World} {v : Value} {ts : List Tok} (h : TRow w v ts) : ∃ a c, v = .slice a ts.length c := by
  rcases h with ⟨rfl, rfl⟩ | ⟨g, off, c, rfl, _⟩
  · exact ⟨none, 0, rfl⟩
  · exact ⟨_, _, rfl⟩
end Go.Proofs.YtgephneppgcnlaaGreatDoor
