/- A Kept told, stored in a block of its own, and stored over the caller's: the memory. -/
import Derived.Test.YtlkglhgndfhjeaaGpa
namespace Go.Proofs.Ytlkglhgndfhjeaa
open Go Go.RowKit
set_option linter.unusedVariables false
set_option linter.unusedSimpArgs false

/-- A Kept that lies in new blocks only, put into a new block of its own. -/
theorem kb_new {W w w1 : World} {U : Nat → Prop} {d l m a h N b9 : Nat} {fs : List (List UInt8)} {s s' : List UInt8} {rs rs' : List (List UInt8)} {v : Value}
    (hs : LU W U w d l m a h N fs) (hk : KB w U b9 s rs) (hv : KeptV w1 (fun q => w.heap.size ≤ q) v s' rs') (ho : Only (fun _ => False) w w1) :
    ∃ a' c, v = .agg #[strR s', .slice a' rs'.length c] ∧ ∃ U', (∀ k, U k → U' k) ∧ U' w1.heap.size ∧ w1.heap.size ≠ b9 ∧
      LU W U' (w1.alloc (.cells #[strR s', .slice a' rs'.length c] 68)) d l m a h N fs ∧
      KB (w1.alloc (.cells #[strR s', .slice a' rs'.length c] 68)) U' b9 s rs ∧
      KeptV (w1.alloc (.cells #[strR s', .slice a' rs'.length c] 68)) (fun k => U' k ∧ k ≠ b9) (.agg #[strR s', .slice a' rs'.length c]) s' rs' ∧
      KB (w1.alloc (.cells #[strR s', .slice a' rs'.length c] 68)) U' w1.heap.size s' rs' := by
  obtain ⟨a', c, rfl, h1, h2, h3⟩ := hv
  have hal := (Only.refl (fun _ => False) w1).alloc (.cells #[strR s', .slice a' rs'.length c] 68)
  have ho2 := ho.trans hal
  have hb9 : b9 < w.heap.size := by obtain ⟨_, _, q, _⟩ := hk; exact (Array.getElem?_eq_some_iff.1 q).1
  have hsz := ho.size
  have hsz2 : (w1.alloc (.cells #[strR s', .slice a' rs'.length c] 68)).heap.size = w1.heap.size + 1 := by simp
  have h4 := h3.only (S := fun _ => False) hal (fun _ _ h => h)
  refine ⟨a', c, rfl, (fun k => U k ∨ (w.heap.size ≤ k ∧ k < (w1.alloc (.cells #[strR s', .slice a' rs'.length c] 68)).heap.size)), fun k hk => .inl hk, .inr ⟨hsz, by omega⟩, by omega, hs.grow ho2, (hk.only ho2 (fun _ _ h => h)).mono (fun k hk => .inl hk), ⟨a', c, rfl, h1, h2, h4.weaken (fun q hq h => ⟨.inr ⟨h, hq⟩, by omega⟩)⟩, ⟨a', c, heap_new _ _, .inr ⟨hsz, by omega⟩, h1, h2, h4.weaken (fun q hq h => .inr ⟨h, hq⟩)⟩⟩
/-- .. and stored over the caller's. -/
theorem kb_store {W w : World} {U : Nat → Prop} {d l m a h N b9 : Nat} {fs : List (List UInt8)} {s s' : List UInt8} {rs rs' : List (List UInt8)} {a' : Option Addr} {c : Nat}
    (hs : LU W U w d l m a h N fs) (hk : KB w U b9 s rs) (hW : W.heap.size ≤ b9) (hv : KeptV w (fun k => U k ∧ k ≠ b9) (.agg #[strR s', .slice a' rs'.length c]) s' rs') :
    LU W U ((w.setCell ⟨b9, 0, none⟩ (strR s')).setCell ⟨b9, 1, none⟩ (.slice a' rs'.length c)) d l m a h N fs ∧
    KB ((w.setCell ⟨b9, 0, none⟩ (strR s')).setCell ⟨b9, 1, none⟩ (.slice a' rs'.length c)) U b9 s' rs' := by
  obtain ⟨aO, cO, hO, hU, _⟩ := id hk
  have hh9 := heap_set (o := 1) (heap_set (o := 0) hO (strR s')) (.slice a' rs'.length c)
  have hh9' : ((w.setCell ⟨b9, 0, none⟩ (strR s')).setCell ⟨b9, 1, none⟩ (.slice a' rs'.length c)).heap[b9]? = some (.cells #[strR s', .slice a' rs'.length c] 68 (0, 0)) := by simpa using hh9
  have k2 := ((Only.refl (fun q => q = b9) w).setCell (p := ⟨b9, 0, none⟩) (.inl rfl) (strR s')).setCell (p := ⟨b9, 1, none⟩) (.inl rfl) (.slice a' rs'.length c)
  exact ⟨hs.only k2 (fun k _ e => by subst e; exact ⟨hW, hU⟩), hk.put (U' := fun k => U k ∧ k ≠ b9) hv k2 hh9' (fun k hk => hk)⟩
end Go.Proofs.Ytlkglhgndfhjeaa
