/- []columbarylaw02.Act, opened. -/
import Derived.Test.YtlkglhgndfhjeaaGkb
import Derived.Test.YtlkglhgndfhjeaaBlkE
namespace Go.Proofs.Ytlkglhgndfhjeaa
open Go Go.RowKit Go.ChangeShapes Go.WideShapes
set_option linter.unusedVariables false
set_option linter.unusedSimpArgs false

structure Act2 where
  kind : Int
  p : List UInt8
  n : Int
  k : Int
  t : Int
def IsAct2 (w : World) (B : Nat) (c : Act2) (cs : List Value) : Prop := ∃ v, cs = [.int .u8 c.kind, v, .int .u8 c.n, .int .i64 c.k, .int .i64 c.t] ∧ Old w B v c.p ∧ (0 ≤ c.kind ∧ c.kind ≤ 255) ∧
  (0 ≤ c.n ∧ c.n ≤ 255) ∧ (-9223372036854775808 ≤ c.k ∧ c.k ≤ 9223372036854775807) ∧ (-9223372036854775808 ≤ c.t ∧ c.t ≤ 9223372036854775807)
theorem acts2_of_trod {H : Type} {enc : TypeId × Value → H} {w : World} {v : Value} {d : DataW H} {p : List MemPlace} (hv : ∃ a len cap, v = .slice a len cap)
    (h : DataW.Trod enc Try.prog w 0 (fun _ => true) true 58 v d p) : ∃ len, Elems w w.heap.size 5 (fun cs => ∃ c, IsAct2 w w.heap.size c cs) v len :=
  elems_of_trod Try.underlying58 (by kernel_rfl) (by omega) hv h (fun n cs x hx => by
    obtain ⟨xs, m, rfl, rfl, hl, hxl, hf⟩ := DataW.trod_struct Try.underlying65 hx
    obtain ⟨c0, c1, c2, c3, c4, rfl⟩ := list5 (hl.trans (by kernel_rfl))
    have g1 : Try.prog.cellsOf 5 = 1 := by kernel_rfl
    have g2 : Try.prog.cellsOf 3 = 1 := by kernel_rfl
    have g3 : Try.prog.cellsOf 22 = 1 := by kernel_rfl
    obtain ⟨y0, y1, y2, y3, y4, rfl⟩ := list5 (hxl.trans rfl)
    have f0 := field_at hf 0 5 0 1 rfl g1
    have f1 := field_at hf 1 22 1 1 rfl g3
    have f2 := field_at hf 2 5 2 1 rfl g1
    have f3 := field_at hf 3 3 3 1 rfl g2
    have f4 := field_at hf 4 3 4 1 rfl g2
    obtain ⟨k, e0, _, h0⟩ := DataW.trod_int Try.underlying5 f0
    obtain ⟨v1, l1, e1, h1⟩ := bytes_of_trod f1
    obtain ⟨q2, e2, _, h2⟩ := DataW.trod_int Try.underlying5 f2
    obtain ⟨q3, e3, _, h3⟩ := DataW.trod_int Try.underlying3 f3
    obtain ⟨q4, e4, _, h4⟩ := DataW.trod_int Try.underlying3 f4
    simp at e0 e1 e2 e3 e4
    subst e0; subst e1; subst e2; subst e3; subst e4
    exact ⟨⟨k, l1, q2, q3, q4⟩, _, rfl, h1, u8_bd h0, u8_bd h2, i64_bd h3, i64_bd h4⟩)
/-- The script as a list of acts. -/
theorem acts2_list {w : World} {B : Nat} {v : Value} {len : Nat} (h : Elems w B 5 (fun cs => ∃ c, IsAct2 w B c cs) v len) :
    ∃ (a : Option Addr) (cap : Nat) (l : List Act2), v = .slice a len cap ∧ len ≤ cap ∧ cap ≤ 9223372036854775807 ∧ l.length = len ∧
      ∀ i (hi : i < l.length), ∃ b off v, a = some ⟨b, off, none⟩ ∧ b < B ∧ w.cell? ⟨b, off + i * 5, none⟩ = some (.int .u8 l[i].kind) ∧ w.cell? ⟨b, off + (i * 5 + 1), none⟩ = some v ∧
        w.cell? ⟨b, off + (i * 5 + 2), none⟩ = some (.int .u8 l[i].n) ∧ w.cell? ⟨b, off + (i * 5 + 3), none⟩ = some (.int .i64 l[i].k) ∧ w.cell? ⟨b, off + (i * 5 + 4), none⟩ = some (.int .i64 l[i].t) ∧ Old w B v l[i].p ∧
        (0 ≤ l[i].kind ∧ l[i].kind ≤ 255) ∧ (0 ≤ l[i].n ∧ l[i].n ≤ 255) ∧ (-9223372036854775808 ≤ l[i].k ∧ l[i].k ≤ 9223372036854775807) ∧ (-9223372036854775808 ≤ l[i].t ∧ l[i].t ≤ 9223372036854775807) := by
  obtain ⟨a, cap, rfl, h1, h2, _, h3⟩ := h
  have hc : ∀ n, n ≤ len → ∃ l : List Act2, l.length = n ∧ ∀ i (hi : i < l.length), ∃ b off cs, a = some ⟨b, off, none⟩ ∧ b < B ∧ (∀ j, j < 5 → w.cell? ⟨b, off + (i * 5 + j), none⟩ = cs[j]?) ∧ IsAct2 w B l[i] cs := by
    intro n
    induction n with
    | zero => intro _; exact ⟨[], rfl, fun i hi => absurd hi (by simp)⟩
    | succ n ih =>
      intro hn
      obtain ⟨l, hl, hi⟩ := ih (by omega)
      obtain ⟨b, off, cs, e, hb, hcs, hcell, c, hact⟩ := h3 n (by omega)
      refine ⟨l ++ [c], by simp [hl], fun i hi' => ?_⟩
      by_cases hlt : i < l.length
      · obtain ⟨b, off, cs, e, hb, hcell, hact⟩ := hi i hlt
        refine ⟨b, off, cs, e, hb, hcell, ?_⟩
        rw [List.getElem_append_left hlt]; exact hact
      · have hin : i = n := by rw [List.length_append] at hi'; simp at hi'; omega
        subst hin
        refine ⟨b, off, cs, e, hb, hcell, ?_⟩
        have : (l ++ [c])[i] = c := by simp [← hl]
        rw [this]; exact hact
  obtain ⟨l, hl, hi⟩ := hc len (Nat.le_refl _)
  refine ⟨a, cap, l, rfl, h1, h2, hl, fun i hlt => ?_⟩
  obtain ⟨b, off, cs, e, hb, hcell, v, rfl, ho, k1, k2, k3, k4⟩ := hi i hlt
  exact ⟨b, off, v, e, hb, hcell 0 (by decide), hcell 1 (by decide), hcell 2 (by decide), hcell 3 (by decide), hcell 4 (by decide), ho, k1, k2, k3, k4⟩
end Go.Proofs.Ytlkglhgndfhjeaa
