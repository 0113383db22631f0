/- A row of bytes that the caller owns; texts put together. Over no program. -/
import Derived.Test.YtgephneppgcnlaaGreatDoorOwC
namespace Go.Proofs.YtgephneppgcnlaaGreatDoor
open Go Go.RowKit
set_option linter.unusedVariables false
set_option linter.unusedSimpArgs false

theorem cat_list (a b : List UInt8) : (⟨a.toArray⟩ : ByteArray) ++ ⟨b.toArray⟩ = ⟨(a ++ b).toArray⟩ := by
  apply ByteArray.ext; simp
theorem cat_str (a : List UInt8) (s : ByteArray) : ((⟨a.toArray⟩ : ByteArray) ++ s).data.toList = a ++ s.data.toList := by simp
/-- A row of bytes that the caller owns, in a later world. -/
theorem row_cell {w W : World} {a : Option Addr} {len cap : Nat} {z : List Int} (h : IsRow .u8 w a len cap z) (hW : Only (fun _ => False) w W) {k : Nat} (hk : k < len) :
    ∃ b off, a = some ⟨b, off, none⟩ ∧ W.cell? ⟨b, off + k, none⟩ = some (.int .u8 (z.getD k 0)) ∧ 0 ≤ z.getD k 0 ∧ z.getD k 0 ≤ 255 := by
  rcases h with ⟨_, rfl, _, _⟩ | ⟨⟨b, off, spot⟩, rfl, h1, h2, h3, h4, h5⟩
  · omega
  · have hs : spot = none := by simpa [Addr.add] using World.cell?_spot (h4 0 (by omega))
    subst hs
    have hc := h4 k (by omega)
    rw [addr_add] at hc
    have hm : z.getD k 0 ∈ z := by rw [List.getD_eq_getElem?_getD, List.getElem?_eq_getElem (by omega)]; exact List.getElem_mem _
    have hw := h5 _ hm
    have hb := cell_lt hc
    refine ⟨b, off, rfl, ?_, ?_⟩
    · simp only [World.cell?] at hc ⊢
      rw [hW.block b hb (fun h => h)]; exact hc
    · simp [Lit.wf, IntKind.min, IntKind.max, IntKind.signed, IntKind.bits] at hw
      simpa using hw
theorem row_len {w : World} {a : Option Addr} {len cap : Nat} {z : List Int} (h : IsRow .u8 w a len cap z) : len ≤ z.length ∧ cap ≤ maxLen ∧ len ≤ cap := by
  rcases h with ⟨_, rfl, rfl, rfl⟩ | ⟨x, _, h1, h2, h3, _⟩
  · simp
  · omega
theorem u8_toNat {x : Int} (h1 : 0 ≤ x) (h2 : x ≤ 255) : ((UInt8.ofNat x.toNat).toNat : Int) = x := by simp; omega
end Go.Proofs.YtgephneppgcnlaaGreatDoor
