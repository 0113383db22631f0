/- append of a whole slice of structs. Over any program. -/
import Derived.Test.YtgephneppgcnlaaDoorOwC
namespace Go.Proofs.YtgephneppgcnlaaDoor
open Go Go.RowKit
set_option linter.unusedVariables false
set_option linter.unusedSimpArgs false

theorem rows_flat {w : World} {G : Nat → Prop} {n b : Nat} : ∀ (rs : List (List Cell)) (off : Nat), RowsAt w G n rs b off → ∃ ys, ys.length = rs.length * n ∧ (∀ j u, ys[j]? = some u → w.cell? ⟨b, off + j, none⟩ = some u) ∧ Chk w G n rs ys ∧ ∀ u ∈ ys, u.oneCell' = true
  | [], off, _ => ⟨[], by simp, fun j u h => by simp at h, rfl, fun u h => by simp at h⟩
  | r :: rs, off, h => by
    simp only [RowsAt] at h
    obtain ⟨⟨vs, h1, h2, h3⟩, h4⟩ := h
    obtain ⟨ys, k1, k2, k3, k4⟩ := rows_flat rs (off + n) h4
    refine ⟨vs ++ ys, by rw [List.length_append, h1, k1, List.length_cons, Nat.succ_mul, Nat.add_comm], fun j u hu => ?_, ⟨vs, ys, rfl, h1, h3, k3⟩, fun u hu => ?_⟩
    · rcases Nat.lt_or_ge j vs.length with hj | hj
      · rw [List.getElem?_append_left hj] at hu; exact h2 j u hu
      · rw [List.getElem?_append_right hj] at hu
        have := k2 _ _ hu
        rw [show off + n + (j - vs.length) = off + j from by omega] at this; exact this
    · rcases List.mem_append.1 hu with hu | hu
      · exact CellsAt.one h3 u hu
      · exact k4 u hu
theorem Chk.app {w : World} {G : Nat → Prop} {n : Nat} {us : List (List Cell)} {ys : List Value} (h' : Chk w G n us ys) : ∀ {rs : List (List Cell)} {xs : List Value}, Chk w G n rs xs → Chk w G n (rs ++ us) (xs ++ ys)
  | [], _, h => by have h : _ = [] := h; subst h; exact h'
  | r :: rs, _, ⟨vs, rest, e, h1, h2, h3⟩ => ⟨vs, rest ++ ys, by rw [e, List.append_assoc], h1, h2, Chk.app h' h3⟩
theorem append_none_run {P : Program} (w : World) (t ty e : TypeId) (i : TypeInfo) (ht : P.underlying t = some (.slice e)) (hi : P.info? e = some i) (base a : Option Addr) (n c k : Nat) (hle : n ≤ k) :
    (Builtin.append_ #[t, t] ty #[.slice base n k, .slice a 0 c]).run P w = .ok (.slice base n k) w := by
  cases base <;> cases a <;> simp [Builtin.append_, run_underlying ht, sizeOf, typeInfo, hi, Builtin.lenOf, Builtin.firstCells, hle, storeCells, loadCells, loadCellsFrom]
section
variable {P : Program} {ops : Array Oper} {Q : Exit → Act → World → Prop}
theorem wpList_append_whole {w : World} {rest : List Oper} {o : Oper} {a : Act} (hgd : o.guard = none) (s x : Operand) (T E : TypeId)
    (ho : o.op = .call { callee := .builtin .append, args := #[s, x], argTypes := #[T, T] }) (hu : P.underlying T = some (.slice E)) {z : Value} {size bytes : Nat} (hi : (P.info? E).map (fun i => (i.zero, i.size, i.bytes)) = some (some z, size, bytes)) (hzs : z.cells.size = size) (hsz : 0 < size)
    (B C : Nat) (hC : C ≤ B) (v xv : Value) (rs us : List (List Cell)) (xs : List Value) (hs : a.eval s = v) (hx : a.eval x = xv) (hown : w.ownsRow B E size v rs.length xs) (hck : Chk w (fun q => q < C) size rs xs) (hxv : CellAt w (fun q => q < C) (.row size us) xv)
    (hb1 : rs.length + us.length ≤ maxLen) (hb2 : (rs.length + us.length) * bytes ≤ 140737488355328) (hB : B ≤ w.heap.size)
    (h : ∀ v' xs' w', w'.ownsRow B E size v' (rs.length + us.length) xs' → Chk w' (fun q => q < C) size (rs ++ us) xs' → Only (fun k => B ≤ k ∧ v.ownBlock = some k) w w' → (∀ k, v'.ownBlock = some k → v.ownBlock = some k ∨ w.heap.size ≤ k) → wpList P ops Q rest (a.put o.dst v') w') : wpList P ops Q (o :: rest) a w := by
  obtain ⟨sa, sc, ev, s1, s2, s3⟩ := own_form hown
  have hxv' := hxv
  simp only [CellAt] at hxv'
  obtain ⟨xa, c, rfl, k1, k2, k3⟩ := hxv'
  by_cases h0 : us.length = 0
  · have hnil : us = [] := List.eq_nil_of_length_eq_zero h0
    subst hnil
    obtain ⟨i0, hi', hz0, hz1, hz2⟩ := info_parts hi
    refine wpList_plain hgd fun K hK => ?_
    rw [ev] at hs
    unfold Oper.wp execOp
    simp only [ho, resolve, invoke, builtin, Sem.run_bind, Sem.run_pure, Result.andThen_ok, List.map_toArray, List.map_cons, List.map_nil, hs, hx, List.length_nil, append_none_run w T o.type E i0 hu hi' sa xa rs.length c sc s1]
    refine hK _ _ (h _ xs w (by rw [List.length_nil, Nat.add_zero, ← ev]; exact hown) (by rw [List.append_nil]; exact hck) (Only.refl _ _) (fun k hk => .inl (by rw [ev]; exact hk)))
  · obtain ⟨b, off, rfl, g1, g2, g3⟩ := k3 (by omega)
    obtain ⟨ys, y1, y2, y3, y4⟩ := rows_flat us off g3
    refine wpList_append_own2 hgd s x T E ho hu hi hzs hsz B v rs.length us.length c xs ys ⟨b, off, none⟩ hs hx hown y1 (fun j u hu => by rw [addr_add]; exact y2 j u hu) y4 hb1 hb2 hB (fun v' w' q1 q2 q3 => ?_)
    have q2' : Only (fun k => B ≤ k ∧ v.ownBlock = some k) w w' := q2.mono (fun q _ hq => ⟨(s3 q hq).1, hq⟩)
    refine h v' (xs ++ ys) w' q1 (Chk.app (y3.only q2' (fun k hk e => by have hk : k < C := hk; omega)) (hck.only q2' (fun k hk e => by have hk : k < C := hk; omega))) q2' q3
/-- What was appended, read. -/
theorem own_cell {w : World} {B : Nat} {T : TypeId} {n : Nat} {v : Value} {rs : List (List Cell)} {xs : List Value} {G : Nat → Prop} (h1 : w.ownsRow B T n v rs.length xs) (h2 : Chk w G n rs xs) : CellAt w (fun _ => True) (.row n rs) v := by
  obtain ⟨a, c, e, k1, k2, k3⟩ := own_form h1
  simp only [CellAt]
  refine ⟨a, c, e, k1, by unfold maxLen at k2; omega, fun hp => ?_⟩
  obtain ⟨g, c', e', hg, hb, hr⟩ := own_range h1 hp
  rw [e] at e'; injection e' with e' _ _
  exact ⟨g, 0, e', trivial, hb, RowsAt.weaken (fun q _ hq => trivial) n rs g 0 (h2.rows hr)⟩
end
end Go.Proofs.YtgephneppgcnlaaDoor
