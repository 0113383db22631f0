/- . -/
import Derived.Test.YtnkpoddbbdmipaaGreatDoorTDcRft
import Derived.Test.YtnkpoddbbdmipaaGreatDoorTDcOwC
namespace Go.Proofs.YtnkpoddbbdmipaaGreatDoor
open Go Go.RowKit
set_option linter.unusedVariables false
set_option linter.unusedSimpArgs false
def muF (w : World) (b : Nat) (all : RL) : Nat := match w.cell? ⟨b, 4, none⟩ with
 | some (.int _ e) => if e = 0 then (match w.cell? ⟨b, 1, none⟩ with | some (.int _ i) => all.ts.length - i.toNat + 1 | _ => 0) else 0
 | _ => 0
theorem muF_ok {w : World} {b : Nat} {all : RL} {u : Unit} {r : List Tok} (h : Rf w b all (.ok u r)) : muF w b all = r.length + 1 := by
 obtain ⟨i, dv, bd, e, h, rfl, h2, h3, j, rfl, h4, h5⟩ := h; obtain ⟨g, off, c, h1, -⟩ := h.row; have c4 : w.cell? ⟨b, 4, none⟩ = some (.int .i64 0) := by simp [World.cell?, h1]
 have c1 : w.cell? ⟨b, 1, none⟩ = some (.int .i64 (j : Int)) := by simp [World.cell?, h1]
 unfold muF; rw [c4, c1]; simp; omega
theorem muF_bad {w : World} {b : Nat} {all : RL} {a c : Nat} (h : Rf w b all (.bad a c)) : muF w b all = 0 := by
 obtain ⟨h1, v, i, dv, c0, c1, c2, c3, c4, fz⟩ := h.bad_cells; unfold muF; rw [c4]; simp; omega
theorem Rf.few {w : World} {b : Nat} {all : RL} {u : Unit} {r : List Tok} (h : Rf w b all (.ok u r)) : r.length ≤ 1000000 ∧ 0 < r.length := by
 obtain ⟨i, dv, bd, e, h, rfl, h2, h3, j, rfl, h4, h5⟩ := h; have h8 := h.few; refine ⟨by omega, ?_⟩
 cases r with
 | nil => exact h3.elim
 | cons t u => simp
section
variable {α : Type} {p : List Tok → PR α} {c : List UInt8}
def loopP (p : List Tok → PR α) (c : List UInt8) (first : Bool) (acc : List α) (r : List Tok) : PR (List α) := if first then (p r).bind fun x r1 => anyP p c (r1.length + 1) (acc ++ [x]) r1 else anyP p c (r.length + 1) acc r
theorem manyP_loop (hp : Takes p) : ∀ (n : Nat) (acc : List α) (r : List Tok), r.length < n → manyP p c n acc r = loopP p c true acc r
 | 0, _, _, h => by omega
 | n + 1, acc, r, h => by
  rw [manyP]
  show _ = (p r).bind fun x r1 => anyP p c (r1.length + 1) (acc ++ [x]) r1
  cases hq : p r with
  | bad a e => rfl
  | ok x r1 =>
   have hl := hp _ _ _ hq
   show (if isT c r1 = true then PR.ok (acc ++ [x]) r1.tail else manyP p c n (acc ++ [x]) r1) = anyP p c (r1.length + 1) (acc ++ [x]) r1
   rw [anyP]
   by_cases hb : isT c r1 = true
   ·rw [if_pos hb, if_pos hb]
   ·rw [if_neg hb, if_neg hb, manyP_loop hp n _ _ (by omega)]
    show ((p r1).bind fun y r2 => anyP p c (r2.length + 1) (acc ++ [x] ++ [y]) r2) = _
    cases hq2 : p r1 with
    | bad a e => rfl
    | ok y r2 =>
     have hl2 := hp _ _ _ hq2; exact anyP_fuel hp c _ _ _ _ (by omega) (by omega)
theorem loop_step (hp : Takes p) {first : Bool} {acc : List α} {r : List Tok} (hcl : first = true ∨ isT c r = false) : loopP p c first acc r = (p r).bind fun x r1 => loopP p c false (acc ++ [x]) r1 := by
 cases first with
 | true => rfl
 | false =>
  have hb : isT c r = false := hcl.resolve_left (by decide)
  show anyP p c (r.length + 1) acc r = (p r).bind fun x r1 => anyP p c (r1.length + 1) (acc ++ [x]) r1
  rw [anyP, if_neg (by rw [hb]; decide)]
  cases hq : p r with
  | bad a e => rfl
  | ok x r1 =>
   have hl := hp _ _ _ hq; exact anyP_fuel hp c _ _ _ _ (by omega) (by omega)
theorem loop_stop {acc : List α} {r : List Tok} (hb : isT c r = true) : loopP p c false acc r = .ok acc r.tail := by
 show anyP p c (r.length + 1) acc r = _
 rw [anyP, if_pos hb]
structure LS (p : List Tok → PR α) (c : List UInt8) (total : PR (List α)) (first : Bool) (n : Nat) (K : List α → Prop) (σ : PR Unit) : Prop where
 few : n ≤ 1000000
 ok : ∀ u r, σ = .ok u r → n + r.length ≤ 1000000 ∧ ∃ acc : List α, acc.length = n ∧ K acc ∧ total = loopP p c first acc r
 bad : ∀ a e, σ = .bad a e → total = .bad a e
theorem LS.start (first : Bool) {K : List α → Prop} (hK : K []) {σ : PR Unit} (hf : ∀ u r, σ = .ok u r → r.length ≤ 1000000) : LS p c (σ.bind fun _ r => loopP p c first [] r) first 0 K σ :=
 ⟨by omega, fun u r e => ⟨by have := hf u r e; omega, [], rfl, hK, by rw [e]; rfl⟩, fun a d e => by rw [e]; rfl⟩
theorem LS.next {total : PR (List α)} {first : Bool} {n : Nat} {K K' : List α → Prop} {u : Unit} {r : List Tok} (h : LS p c total first n K (.ok u r)) (hp : Takes p) (hpos : 0 < r.length) (hcl : first = true ∨ isT c r = false) (hK : ∀ acc x q, K acc → p r = .ok x q → K' (acc ++ [x])) : LS p c total false (n + 1) K' (p r).unit := by
 obtain ⟨h1, acc, h2, h3, h4⟩ := h.ok _ _ rfl; rw [loop_step hp hcl] at h4
 cases hq : p r with
 | bad a e =>
  rw [hq] at h4; exact ⟨by omega, fun u r e => (by cases e), fun a' e' e => (by injection e with e1 e2; subst e1; subst e2; exact h4)⟩
 | ok x r1 =>
  rw [hq] at h4; have hl := hp _ _ _ hq; refine ⟨by omega, fun u r e => ?_, fun a e h => by cases h⟩
  injection e with _ e
  subst e; exact ⟨by omega, acc ++ [x], by rw [List.length_append, h2]; rfl, hK _ _ _ h3 hq, h4⟩
theorem LS.stop {total : PR (List α)} {n : Nat} {K : List α → Prop} {u : Unit} {r : List Tok} (h : LS p c total false n K (.ok u r)) (hb : isT c r = true) : ∃ acc, K acc ∧ total = .ok acc r.tail := by
 obtain ⟨_, acc, _, h3, h4⟩ := h.ok _ _ rfl; exact ⟨acc, h3, h4.trans (loop_stop hb)⟩
theorem elem_row {P : PR α} {enc : α → List Cell} {w : World} {G : Nat → Prop} {ys : List Value} (hv : ∀ x q, P = .ok x q → CellsAt w G (enc x) ys) (h1 : ∀ u ∈ ys, u.oneCell' = true) : ∃ row, CellsAt w G row ys ∧ ∀ x q, P = .ok x q → row = enc x := by
 cases P with
 | ok x q => exact ⟨enc x, hv x q rfl, fun y q' e => by injection e with e _; rw [e]⟩
 | bad a e =>
  refine ⟨ys.map Cell.lit, ?_, fun y q' e => by cases e⟩
  clear hv
  induction ys with
  | nil => exact CellsAt.nil _ _
  | cons u us ih => exact CellsAt.lit (h1 u (by simp)) (ih (fun v hv => h1 v (by simp [hv])))
end
structure OwnTwo (w : World) (B : Nat) (TK TL : TypeId) (nK nL : Nat) (vK vL : Value) (ks rs : List (List Cell)) : Prop where
 k : ∃ xs, w.ownsRow B TK nK vK ks.length xs ∧ Chk w (fun q => (B ≤ q ∧ vK.ownBlock ≠ some q ∧ q < w.heap.size) ∧ vL.ownBlock ≠ some q) nK ks xs
 l : ∃ xs, w.ownsRow B TL nL vL rs.length xs ∧ Chk w (fun q => (B ≤ q ∧ vL.ownBlock ≠ some q ∧ q < w.heap.size) ∧ vK.ownBlock ≠ some q) nL rs xs
 apart : ∀ q, vK.ownBlock = some q → vL.ownBlock ≠ some q
theorem OwnTwo.nil (w : World) (B : Nat) (TK TL : TypeId) (nK nL : Nat) : OwnTwo w B TK TL nK nL (.slice none 0 0) (.slice none 0 0) [] [] := ⟨⟨[], own_nil _ _ _ _, rfl⟩, ⟨[], own_nil _ _ _ _, rfl⟩, fun q h => by simp [Value.ownBlock] at h⟩
theorem OwnTwo.left {w : World} {B : Nat} {TK TL : TypeId} {nK nL : Nat} {vK vL : Value} {ks rs : List (List Cell)} (h : OwnTwo w B TK TL nK nL vK vL ks rs) : OwnRow w B TK nK vK ks := by
 obtain ⟨xs, h1, h2⟩ := h.k; exact ⟨xs, h1, h2.weaken (fun q _ hq => hq.1)⟩
theorem OwnTwo.right {w : World} {B : Nat} {TK TL : TypeId} {nK nL : Nat} {vK vL : Value} {ks rs : List (List Cell)} (h : OwnTwo w B TK TL nK nL vK vL ks rs) : OwnRow w B TL nL vL rs := by
 obtain ⟨xs, h1, h2⟩ := h.l; exact ⟨xs, h1, h2.weaken (fun q _ hq => hq.1)⟩
theorem OwnTwo.swap {w : World} {B : Nat} {TK TL : TypeId} {nK nL : Nat} {vK vL : Value} {ks rs : List (List Cell)} (h : OwnTwo w B TK TL nK nL vK vL ks rs) : OwnTwo w B TL TK nL nK vL vK rs ks := ⟨h.l, h.k, fun q e e' => h.apart q e' e⟩
theorem OwnTwo.only {S : Nat → Prop} {w w' : World} {B : Nat} {TK TL : TypeId} {nK nL : Nat} {vK vL : Value} {ks rs : List (List Cell)} (h : OwnTwo w B TK TL nK nL vK vL ks rs) (ho : Only S w w') (hS : ∀ k, B ≤ k → k < w.heap.size → ¬ S k) : OwnTwo w' B TK TL nK nL vK vL ks rs := by
 obtain ⟨⟨xs, h1, h2⟩, ⟨ys, h3, h4⟩, h5⟩ := h; obtain ⟨a, c, e, _, _, g1⟩ := own_form h1; obtain ⟨a', c', e', _, _, g2⟩ := own_form h3
 exact ⟨⟨xs, own_only' h1 ho (fun k hk => hS k (g1 k hk).1 (g1 k hk).2), (h2.only ho (fun k hk => hS k hk.1.1 hk.1.2.2)).weaken (fun q _ hq => ⟨⟨hq.1.1, hq.1.2.1, Nat.lt_of_lt_of_le hq.1.2.2 ho.size⟩, hq.2⟩)⟩,
  ⟨ys, own_only' h3 ho (fun k hk => hS k (g2 k hk).1 (g2 k hk).2), (h4.only ho (fun k hk => hS k hk.1.1 hk.1.2.2)).weaken (fun q _ hq => ⟨⟨hq.1.1, hq.1.2.1, Nat.lt_of_lt_of_le hq.1.2.2 ho.size⟩, hq.2⟩)⟩, h5⟩
theorem OwnTwo.append {w w' : World} {B : Nat} {TK TL : TypeId} {nK nL : Nat} {vK vL v' : Value} {ks rs : List (List Cell)} {r : List Cell} {xs vs : List Value} (h : OwnTwo w B TK TL nK nL vK vL ks rs)
  (h3 : w.ownsRow B TL nL vL rs.length xs) (h4 : Chk w (fun q => (B ≤ q ∧ vL.ownBlock ≠ some q ∧ q < w.heap.size) ∧ vK.ownBlock ≠ some q) nL rs xs)
  (hl : vs.length = nL) (hr : CellsAt w (fun q => (B ≤ q ∧ vL.ownBlock ≠ some q ∧ q < w.heap.size) ∧ vK.ownBlock ≠ some q) r vs) (q1 : w'.ownsRow B TL nL v' (rs.length + 1) (xs ++ vs)) (q2 : Only (fun k => vL.ownBlock = some k) w w') (q3 : ∀ k, v'.ownBlock = some k → vL.ownBlock = some k ∨ w.heap.size ≤ k) : OwnTwo w' B TK TL nK nL vK v' ks (rs ++ [r]) := by
 obtain ⟨⟨xk, h1, h2⟩, _, h5⟩ := h; obtain ⟨a, c, e, _, _, g1⟩ := own_form h1; have hv' : ∀ q, q < w.heap.size → vL.ownBlock ≠ some q → v'.ownBlock ≠ some q := fun q h1 h2 e => by
  rcases q3 q e with h | h
  ·exact h2 h
  ·omega
 refine ⟨⟨xk, own_only' h1 q2 (fun k hk => fun e => h5 k hk e), (h2.only q2 (fun k hk => hk.2)).weaken (fun q _ hq => ⟨⟨hq.1.1, hq.1.2.1, Nat.lt_of_lt_of_le hq.1.2.2 q2.size⟩, hv' q hq.1.2.2 hq.2⟩)⟩, ⟨xs ++ vs, by rw [List.length_append, List.length_singleton]; exact q1, ?_⟩, fun q hq => hv' q (g1 q hq).2 (h5 q hq)⟩
 exact ((Chk.snoc hl hr h4).only q2 (fun k hk => hk.1.2.1)).weaken (fun q _ hq => ⟨⟨hq.1.1, hv' q hq.1.2.2 hq.1.2.1, Nat.lt_of_lt_of_le hq.1.2.2 q2.size⟩, hq.2⟩)
end Go.Proofs.YtnkpoddbbdmipaaGreatDoor
