/- Two rows that a call makes side by side, each in a block of its own. Over no program. parse.reader.value: its answer in memory; what the walk wants. -/
import Derived.Test.YtgephneppgcnlaaDoorOwC
import Derived.Test.YtgephneppgcnlaaDoorPty
import Derived.Test.YtgephneppgcnlaaDoorRgA
import Derived.Test.YtgephneppgcnlaaDoorPrA
import Derived.RegionDies
namespace Go.Proofs.YtgephneppgcnlaaDoor
open Go Go.RowKit
set_option linter.unusedVariables false
set_option linter.unusedSimpArgs false

/-- vK and vL are rows that the call made behind B; neither lies in the other's block, nor what they hold. -/
structure OwnTwo (w : World) (B : Nat) (TK TL : TypeId) (nK nL : Nat) (vK vL : Value) (ks rs : List (List Cell)) : Prop where
  k : ∃ xs, w.ownsRow B TK nK vK ks.length xs ∧ Chk w (fun q => (B ≤ q ∧ vK.ownBlock ≠ some q ∧ q < w.heap.size) ∧ vL.ownBlock ≠ some q) nK ks xs
  l : ∃ xs, w.ownsRow B TL nL vL rs.length xs ∧ Chk w (fun q => (B ≤ q ∧ vL.ownBlock ≠ some q ∧ q < w.heap.size) ∧ vK.ownBlock ≠ some q) nL rs xs
  apart : ∀ q, vK.ownBlock = some q → vL.ownBlock ≠ some q
theorem OwnTwo.nil (w : World) (B : Nat) (TK TL : TypeId) (nK nL : Nat) : OwnTwo w B TK TL nK nL (.slice none 0 0) (.slice none 0 0) [] [] := ⟨⟨[], own_nil _ _ _ _, rfl⟩, ⟨[], own_nil _ _ _ _, rfl⟩, fun q h => by simp [Value.ownBlock] at h⟩
theorem OwnTwo.left {w : World} {B : Nat} {TK TL : TypeId} {nK nL : Nat} {vK vL : Value} {ks rs : List (List Cell)} (h : OwnTwo w B TK TL nK nL vK vL ks rs) : OwnRow w B TK nK vK ks := by
  obtain ⟨xs, h1, h2⟩ := h.k
  exact ⟨xs, h1, h2.weaken (fun q _ hq => hq.1)⟩
theorem OwnTwo.right {w : World} {B : Nat} {TK TL : TypeId} {nK nL : Nat} {vK vL : Value} {ks rs : List (List Cell)} (h : OwnTwo w B TK TL nK nL vK vL ks rs) : OwnRow w B TL nL vL rs := by
  obtain ⟨xs, h1, h2⟩ := h.l
  exact ⟨xs, h1, h2.weaken (fun q _ hq => hq.1)⟩
theorem OwnTwo.swap {w : World} {B : Nat} {TK TL : TypeId} {nK nL : Nat} {vK vL : Value} {ks rs : List (List Cell)} (h : OwnTwo w B TK TL nK nL vK vL ks rs) : OwnTwo w B TL TK nL nK vL vK rs ks := ⟨h.l, h.k, fun q e e' => h.apart q e' e⟩
theorem OwnTwo.only {S : Nat → Prop} {w w' : World} {B : Nat} {TK TL : TypeId} {nK nL : Nat} {vK vL : Value} {ks rs : List (List Cell)} (h : OwnTwo w B TK TL nK nL vK vL ks rs) (ho : Only S w w') (hS : ∀ k, B ≤ k → k < w.heap.size → ¬ S k) : OwnTwo w' B TK TL nK nL vK vL ks rs := by
  obtain ⟨⟨xs, h1, h2⟩, ⟨ys, h3, h4⟩, h5⟩ := h
  obtain ⟨a, c, e, _, _, g1⟩ := own_form h1
  obtain ⟨a', c', e', _, _, g2⟩ := own_form h3
  exact ⟨⟨xs, own_only' h1 ho (fun k hk => hS k (g1 k hk).1 (g1 k hk).2), (h2.only ho (fun k hk => hS k hk.1.1 hk.1.2.2)).weaken (fun q _ hq => ⟨⟨hq.1.1, hq.1.2.1, Nat.lt_of_lt_of_le hq.1.2.2 ho.size⟩, hq.2⟩)⟩,
    ⟨ys, own_only' h3 ho (fun k hk => hS k (g2 k hk).1 (g2 k hk).2), (h4.only ho (fun k hk => hS k hk.1.1 hk.1.2.2)).weaken (fun q _ hq => ⟨⟨hq.1.1, hq.1.2.1, Nat.lt_of_lt_of_le hq.1.2.2 ho.size⟩, hq.2⟩)⟩, h5⟩
/-- append of one struct to the second row. -/
theorem OwnTwo.append {w w' : World} {B : Nat} {TK TL : TypeId} {nK nL : Nat} {vK vL v' : Value} {ks rs : List (List Cell)} {r : List Cell} {xs vs : List Value} (h : OwnTwo w B TK TL nK nL vK vL ks rs)
    (h3 : w.ownsRow B TL nL vL rs.length xs) (h4 : Chk w (fun q => (B ≤ q ∧ vL.ownBlock ≠ some q ∧ q < w.heap.size) ∧ vK.ownBlock ≠ some q) nL rs xs)
    (hl : vs.length = nL) (hr : CellsAt w (fun q => (B ≤ q ∧ vL.ownBlock ≠ some q ∧ q < w.heap.size) ∧ vK.ownBlock ≠ some q) r vs) (q1 : w'.ownsRow B TL nL v' (rs.length + 1) (xs ++ vs)) (q2 : Only (fun k => vL.ownBlock = some k) w w') (q3 : ∀ k, v'.ownBlock = some k → vL.ownBlock = some k ∨ w.heap.size ≤ k) : OwnTwo w' B TK TL nK nL vK v' ks (rs ++ [r]) := by
  obtain ⟨⟨xk, h1, h2⟩, _, h5⟩ := h
  obtain ⟨a, c, e, _, _, g1⟩ := own_form h1
  have hv' : ∀ q, q < w.heap.size → vL.ownBlock ≠ some q → v'.ownBlock ≠ some q := fun q h1 h2 e => by
    rcases q3 q e with h | h
    · exact h2 h
    · omega
  refine ⟨⟨xk, own_only' h1 q2 (fun k hk => fun e => h5 k hk e), (h2.only q2 (fun k hk => hk.2)).weaken (fun q _ hq => ⟨⟨hq.1.1, hq.1.2.1, Nat.lt_of_lt_of_le hq.1.2.2 q2.size⟩, hv' q hq.1.2.2 hq.2⟩)⟩, ⟨xs ++ vs, by rw [List.length_append, List.length_singleton]; exact q1, ?_⟩, fun q hq => hv' q (g1 q hq).2 (h5 q hq)⟩
  exact ((Chk.snoc hl hr h4).only q2 (fun k hk => hk.1.2.1)).weaken (fun q _ hq => ⟨⟨hq.1.1, hv' q hq.1.2.2 hq.1.2.1, Nat.lt_of_lt_of_le hq.1.2.2 q2.size⟩, hq.2⟩)
end Go.Proofs.YtgephneppgcnlaaDoor
namespace Go.Proofs.YtgephneppgcnlaaDoor
open Go Go.RowKit
set_option linter.unusedVariables false
set_option linter.unusedSimpArgs false

theorem infoVal : (Tryd.prog.info? 45).map (fun i => (i.zero, i.size, i.bytes)) = some (some (.agg #[.int .u8 0, .int .i64 0, .string ByteArray.empty, .slice none 0 0, .slice none 0 0]), 5, 80) := by kernel_rfl
/-- Where the reader at b stands. -/
def posOf (w : World) (b : Nat) : Nat := match w.cell? ⟨b, 1, none⟩ with | some (.int _ i) => i.toNat | _ => 0
theorem RdP.pos {w : World} {b : Nat} {all r : List Tok} {dp : Int} (h : RdP w b all r dp) : posOf w b + r.length = all.length := by
  obtain ⟨g, off, c, i, h1, h2, h3, h4, h5⟩ := h.row
  have : w.cell? ⟨b, 1, none⟩ = some (.int .i64 (i : Int)) := by simp [World.cell?, h1]
  unfold posOf
  rw [this]
  simpa using h5
theorem infoStr : (Tryd.prog.info? 9).map (fun i => (i.zero, i.size, i.bytes)) = some (some (.string ByteArray.empty), 1, 16) := by kernel_rfl
/-- Ahead of a round of the object's loop. -/
def OInv (w : World) (Y B b : Nat) (all : List Tok) (dp : Int) (f : List Tok → PR VT) (r' : List Tok) (wr : World) : Prop :=
  ∃ (acc : List (List UInt8 × VT)) (rest : List Tok) (vK vL : Value), wr.heap[Y]? = some (.cells #[.int .u8 6, .int .i64 0, .string ⟨#[]⟩, vK, vL] 45 (0, 0)) ∧ OwnTwo wr (Y + 1) 9 45 1 5 vK vL (acc.map fun p => [strC p.1]) (acc.map fun p => valC p.2) ∧ RdP wr b all rest dp ∧
    wr.heap[B]? = some (.cells #[.int .u8 0, .int .i64 0, .string ⟨#[]⟩, .slice none 0 0, .slice none 0 0] 45 (0, 0)) ∧ Only (fun k => k = b) w wr ∧ acc.length + rest.length ≤ 1000000 ∧
    ∃ n, rest.length < n ∧ anyP (pairP f) [125] n acc rest = anyP (pairP f) [125] (r'.length + 1) [] r'
/-- Ahead of a round of the list's loop. -/
def LInv (w : World) (Y B b : Nat) (all : List Tok) (dp : Int) (f : List Tok → PR VT) (r' : List Tok) (wr : World) : Prop :=
  ∃ (acc : List VT) (rest : List Tok) (vL : Value), wr.heap[Y]? = some (.cells #[.int .u8 5, .int .i64 0, .string ⟨#[]⟩, .slice none 0 0, vL] 45 (0, 0)) ∧ OwnRow wr (Y + 1) 45 5 vL (acc.map valC) ∧ RdP wr b all rest dp ∧
    wr.heap[B]? = some (.cells #[.int .u8 0, .int .i64 0, .string ⟨#[]⟩, .slice none 0 0, .slice none 0 0] 45 (0, 0)) ∧ Only (fun k => k = b) w wr ∧ acc.length + rest.length ≤ 1000000 ∧
    ∃ n, rest.length < n ∧ anyP f [93] n acc rest = anyP f [93] (r'.length + 1) [] r'
end Go.Proofs.YtgephneppgcnlaaDoor
