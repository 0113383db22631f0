/- []columbarylaw04.Act, opened. -/
import Derived.Test.YtalikihdckknoaaRows
import Derived.Test.YtalikihdckknoaaReads
namespace Go.Proofs.Ytalikihdckknoaa
open Go Go.RowKit
set_option linter.unusedVariables false
set_option linter.unusedSimpArgs false

theorem list3 {α : Type} {cs : List α} (h : cs.length = 3) : ∃ a b c, cs = [a, b, c] := by
  match cs, h with
  | [a, b, c], _ => exact ⟨a, b, c, rfl⟩
theorem u8_bd {n : Int} (h : (Lit.int .u8 n).wf = true) : 0 ≤ n ∧ n ≤ 255 := by
  simp [Lit.wf, IntKind.min, IntKind.max, IntKind.signed, IntKind.bits] at h; omega

def IsAct (cs : List Value) : Prop := ∃ (k : Int) (s : ByteArray) (n : Int), cs = [.int .u8 k, .string s, .int .u8 n] ∧ 0 ≤ k ∧ k ≤ 255 ∧ 0 ≤ n ∧ n ≤ 255 ∧ s.size ≤ maxLen
theorem acts_of_trod {H : Type} {enc : TypeId × Value → H} {w : World} {v : Value} {d : DataW H} {p : List MemPlace} (hv : ∃ a len cap, v = .slice a len cap)
    (h : DataW.Trod enc Try.prog w 0 (fun _ => true) true 62 v d p) : ∃ len, Elems w w.heap.size 3 IsAct v len :=
  elems_of_trod Try.underlying62 (by kernel_rfl) (by omega) hv h (fun n cs x hx => by
    obtain ⟨xs, m, rfl, rfl, hl, hxl, hf⟩ := DataW.trod_struct Try.underlying68 hx
    obtain ⟨c0, c1, c2, rfl⟩ := list3 (hl.trans (by kernel_rfl))
    have g1 : Try.prog.cellsOf 5 = 1 := by kernel_rfl
    have g2 : Try.prog.cellsOf 9 = 1 := by kernel_rfl
    obtain ⟨y0, y1, y2, rfl⟩ := list3 (hxl.trans rfl)
    have f0 := field_at hf 0 5 0 1 rfl g1
    have f1 := field_at hf 1 9 1 1 rfl g2
    have f2 := field_at hf 2 5 2 1 rfl g1
    obtain ⟨k, e0, _, h0⟩ := DataW.trod_int Try.underlying5 f0
    obtain ⟨s, e1, _, h1⟩ := DataW.trod_string Try.underlying9 f1
    obtain ⟨q, e2, _, h2⟩ := DataW.trod_int Try.underlying5 f2
    simp at e0 e1 e2
    subst e0; subst e1; subst e2
    exact ⟨k, s, q, rfl, (u8_bd h0).1, (u8_bd h0).2, (u8_bd h2).1, (u8_bd h2).2, h1⟩)
end Go.Proofs.Ytalikihdckknoaa
