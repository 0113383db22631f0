/- . -/
import Derived.Test.YtnkpoddbbdmipaaGreatDoorTApOwC
namespace Go.Proofs.YtnkpoddbbdmipaaGreatDoor
open Go Go.RowKit
set_option linter.unusedVariables false
set_option linter.unusedSimpArgs false
structure OwnTwo (w : World) (B : Nat) (TK TL : TypeId) (nK nL : Nat) (vK vL : Value) (ks rs : List (List Cell)) : Prop where
 k : ∃ xs, w.ownsRow B TK nK vK ks.length xs ∧ Chk w (fun q => (B ≤ q ∧ vK.ownBlock ≠ some q ∧ q < w.heap.size) ∧ vL.ownBlock ≠ some q) nK ks xs
 l : ∃ xs, w.ownsRow B TL nL vL rs.length xs ∧ Chk w (fun q => (B ≤ q ∧ vL.ownBlock ≠ some q ∧ q < w.heap.size) ∧ vK.ownBlock ≠ some q) nL rs xs
 apart : ∀ q, vK.ownBlock = some q → vL.ownBlock ≠ some q
theorem OwnTwo.nil (w : World) (B : Nat) (TK TL : TypeId) (nK nL : Nat) : OwnTwo w B TK TL nK nL (.slice none 0 0) (.slice none 0 0) [] [] := ⟨⟨[], own_nil _ _ _ _, rfl⟩, ⟨[], own_nil _ _ _ _, rfl⟩, fun q h => by simp [Value.ownBlock] at h⟩
theorem OwnTwo.left {w : World} {B : Nat} {TK TL : TypeId} {nK nL : Nat} {vK vL : Value} {ks rs : List (List Cell)} (h : OwnTwo w B TK TL nK nL vK vL ks rs) : OwnRow w B TK nK vK ks := by
 obtain ⟨xs, h1, h2⟩ := h.k; exact ⟨xs, h1, h2.weaken (fun q _ hq => hq.1)⟩
theorem OwnTwo.right {w : World} {B : Nat} {TK TL : TypeId} {nK nL : Nat} {vK vL : Value} {ks rs : List (List Cell)} (h : OwnTwo w B TK TL nK nL vK vL ks rs) : OwnRow w B TL nL vL rs := by
 obtain ⟨xs, h1, h2⟩ := h.l; exact ⟨xs, h1, h2.weaken (fun q _ hq => hq.1)⟩
theorem OwnTwo.swap {w : World} {B : Nat} {TK TL : TypeId} {nK nL : Nat} {vK vL : Value} {ks rs : List (List Cell)} (h : OwnTwo w B TK TL nK nL vK vL ks rs) : OwnTwo w B TL TK nL nK vL vK rs ks := ⟨h.l, h.k, fun q e e' => h.apart q e' e⟩
theorem OwnTwo.only {S : Nat → Prop} {w w' : World} {B : Nat} {TK TL : TypeId} {nK nL : Nat} {vK vL : Value} {ks rs : List (List Cell)} (h : OwnTwo w B TK TL nK nL vK vL ks rs) (ho : Only S w w') (hS : ∀ k, B ≤ k → k < w.heap.size → ¬ S k) : OwnTwo w' B TK TL nK nL vK vL ks rs := by
 obtain ⟨⟨xs, h1, h2⟩, ⟨ys, h3, h4⟩, h5⟩ := h; obtain ⟨a, c, e, _, _, g1⟩ := own_form h1; obtain ⟨a', c', e', _, _, g2⟩ := own_form h3
 exact ⟨⟨xs, own_only' h1 ho (fun k hk => hS k (g1 k hk).1 (g1 k hk).2), (h2.only ho (fun k hk => hS k hk.1.1 hk.1.2.2)).weaken (fun q _ hq => ⟨⟨hq.1.1, hq.1.2.1, Nat.lt_of_lt_of_le hq.1.2.2 ho.size⟩, hq.2⟩)⟩,
  ⟨ys, own_only' h3 ho (fun k hk => hS k (g2 k hk).1 (g2 k hk).2), (h4.only ho (fun k hk => hS k hk.1.1 hk.1.2.2)).weaken (fun q _ hq => ⟨⟨hq.1.1, hq.1.2.1, Nat.lt_of_lt_of_le hq.1.2.2 ho.size⟩, hq.2⟩)⟩, h5⟩
theorem OwnTwo.append {w w' : World} {B : Nat} {TK TL : TypeId} {nK nL : Nat} {vK vL v' : Value} {ks rs : List (List Cell)} {r : List Cell} {xs vs : List Value} (h : OwnTwo w B TK TL nK nL vK vL ks rs)
  (h3 : w.ownsRow B TL nL vL rs.length xs) (h4 : Chk w (fun q => (B ≤ q ∧ vL.ownBlock ≠ some q ∧ q < w.heap.size) ∧ vK.ownBlock ≠ some q) nL rs xs)
  (hl : vs.length = nL) (hr : CellsAt w (fun q => (B ≤ q ∧ vL.ownBlock ≠ some q ∧ q < w.heap.size) ∧ vK.ownBlock ≠ some q) r vs) (q1 : w'.ownsRow B TL nL v' (rs.length + 1) (xs ++ vs)) (q2 : Only (fun k => vL.ownBlock = some k) w w') (q3 : ∀ k, v'.ownBlock = some k → vL.ownBlock = some k ∨ w.heap.size ≤ k) : OwnTwo w' B TK TL nK nL vK v' ks (rs ++ [r]) := by
 obtain ⟨⟨xk, h1, h2⟩, _, h5⟩ := h; obtain ⟨a, c, e, _, _, g1⟩ := own_form h1; have hv' : ∀ q, q < w.heap.size → vL.ownBlock ≠ some q → v'.ownBlock ≠ some q := fun q h1 h2 e => by
  rcases q3 q e with h | h
  ·exact h2 h
  ·omega
 refine ⟨⟨xk, own_only' h1 q2 (fun k hk => fun e => h5 k hk e), (h2.only q2 (fun k hk => hk.2)).weaken (fun q _ hq => ⟨⟨hq.1.1, hq.1.2.1, Nat.lt_of_lt_of_le hq.1.2.2 q2.size⟩, hv' q hq.1.2.2 hq.2⟩)⟩, ⟨xs ++ vs, by rw [List.length_append, List.length_singleton]; exact q1, ?_⟩, fun q hq => hv' q (g1 q hq).2 (h5 q hq)⟩
 exact ((Chk.snoc hl hr h4).only q2 (fun k hk => hk.1.2.1)).weaken (fun q _ hq => ⟨⟨hq.1.1, hv' q hq.1.2.2 hq.1.2.1, Nat.lt_of_lt_of_le hq.1.2.2 q2.size⟩, hq.2⟩)
end Go.Proofs.YtnkpoddbbdmipaaGreatDoor
