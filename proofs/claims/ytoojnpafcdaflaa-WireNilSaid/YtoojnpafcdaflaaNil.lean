/- A nil reader has nothing; columbarylaw03.WireNil: the walk. -/
import Derived.Test.YtoojnpafcdaflaaAwk
import Derived.Test.YtoojnpafcdaflaaRdx
namespace Go.Proofs.Ytoojnpafcdaflaa
open Go Go.RowKit
set_option linter.unusedVariables false
set_option linter.unusedSimpArgs false

def emptyV : Value := .agg #[.int .u8 0, .int .i64 0, .string ByteArray.empty, .slice none 0 0, .slice none 0 0]
def emptyE : Value := .agg #[.string ByteArray.empty, .string ByteArray.empty, .slice none 0 0, .slice none 0 0]
theorem zero_E (w : World) : (zeroValue 69).run Try.prog w = .ok (.agg #[.string ByteArray.empty, .string ByteArray.empty, .slice none 0 0, .slice none 0 0]) w := by kernel_rfl
set_option maxRecDepth 100000 in
theorem rint_nil (w : World) : Calls Try.prog 33 #[.pointer none] w fun e w' => e = .returned (.int .i64 0) ∧ w = w' := by
  have hand := and1_64 0 (by decide)
  have hx2 := xor_00 0 (by decide)
  simp at hand hx2
  go_enter Try.func33, Try.ntmps33
  go_wp2_with fail
  refine (ruint_nil _ _).mono ?_
  rintro e w2 ⟨rfl, rfl⟩
  go_wp2
  go_ret
  exact ⟨rfl, rfl⟩
set_option maxRecDepth 100000 in
theorem rtext_nil (most : Int) (w : World) : Calls Try.prog 34 #[.pointer none, .int .i64 most] w fun e w' => e = .returned (.string ByteArray.empty) ∧ w = w' := by
  go_enter Try.func34, Try.ntmps34
  go_wp2_with fail
  refine (ruint_nil _ _).mono ?_
  rintro e w2 ⟨rfl, rfl⟩
  go_wp2_with fail
  refine (fail_nil _).mono ?_
  rintro e w3 ⟨rfl, rfl⟩
  go_wp2
  all_goals (go_ret; exact ⟨rfl, rfl⟩)
set_option maxRecDepth 100000 in
theorem value_nil (w : World) : Calls Try.prog 64 #[.pointer none, .int .i64 0] w fun e w' => e = .returned (.agg #[.int .u8 0, .int .i64 0, .string ByteArray.empty, .slice none 0 0, .slice none 0 0]) ∧ Only (fun _ => False) w w' := by
  have hz := zero_V
  go_enter Try.func64, Try.ntmps64
  go_wp2_with fail
  refine (ruint_nil _ _).mono ?_
  rintro e w2 ⟨rfl, rfl⟩
  go_wp2_with fail
  exact bodyPost_ret (v := .agg #[.int .u8 0, .int .i64 0, .string ByteArray.empty, .slice none 0 0, .slice none 0 0]) (by simp [results, Try.results64, go_sem]) rfl ⟨rfl, by (repeat' (first | (with_reducible exact Only.refl _ _) | (with_reducible assumption) | (with_reducible refine Only.drew ?_) | (with_reducible refine Only.drewN ?_ _) | (with_reducible refine Only.alloc ?_ _) | (with_reducible refine Only.setCell ?_ ?_ _) | (first | exact Or.inl rfl | exact Or.inl (Or.inl rfl) | exact Or.inl (Or.inr rfl) | (simp; omega) | (simp; done) | omega)))⟩
set_option maxRecDepth 100000 in
set_option maxHeartbeats 2000000 in
theorem rvalue_nil (w : World) : Calls Try.prog 39 #[.pointer none] w fun e w' => e = .returned (.agg #[.int .u8 0, .int .i64 0, .string ByteArray.empty, .slice none 0 0, .slice none 0 0]) ∧ Only (fun _ => False) w w' := by
  have hz := zero_V
  go_enter Try.func39, Try.ntmps39
  go_wp2_with fail
  refine (value_nil _).mono ?_
  rintro e w2 ⟨rfl, o2⟩
  have hc : ∀ j, j < 5 → w2.heap[w.heap.size]? = some (.cells #[.int .u8 0, .int .i64 0, .string ByteArray.empty, .slice none 0 0, .slice none 0 0] 35 (0, 0)) := fun _ _ => by
    rw [o2.block _ (by simp) (fun h => h)]; exact heap_new w _
  obtain ⟨d0, d1, d2, d3, d4⟩ := box_cells (hc 0 (by decide))
  have hfz : ∀ o, w2.frozen? ⟨w.heap.size, o, none⟩ = false := fun o => by simp [World.frozen?, hc 0 (by decide)]
  have hlt : w.heap.size < w2.heap.size := (Array.getElem?_eq_some_iff.1 (hc 0 (by decide))).1
  have HC := Lib.hid (hc 0 (by decide)); have O2 := Lib.hid (((Only.refl (fun _ => False) w).alloc _).trans o2); clear o2 hc
  go_wp2_with fail
  refine (bad_nil _).mono ?_
  rintro e w3 ⟨rfl, rfl⟩
  have hW : ∀ o, ((((((w2.setCell ⟨w.heap.size, 0, none⟩ (.int .u8 0)).setCell ⟨w.heap.size, 1, none⟩ (.int .i64 0)).setCell ⟨w.heap.size, 2, none⟩ (.string ByteArray.empty)).setCell ⟨w.heap.size, 3, none⟩ (.slice none 0 0)).setCell ⟨w.heap.size, 4, none⟩ (.slice none 0 0)).alloc o).heap[w.heap.size]? = some (.cells #[.int .u8 0, .int .i64 0, .string ByteArray.empty, .slice none 0 0, .slice none 0 0] 35 (0, 0)) := fun o => by
    have h := heap_set (o := 4) (heap_set (o := 3) (heap_set (o := 2) (heap_set (o := 1) (heap_set (o := 0) HC.out (.int .u8 0)) (.int .i64 0)) (.string ByteArray.empty)) (.slice none 0 0)) (.slice none 0 0)
    refine heap_old ?_ o
    simpa using h
  have oW : ∀ o, Only (fun _ => False) w ((((((w2.setCell ⟨w.heap.size, 0, none⟩ (.int .u8 0)).setCell ⟨w.heap.size, 1, none⟩ (.int .i64 0)).setCell ⟨w.heap.size, 2, none⟩ (.string ByteArray.empty)).setCell ⟨w.heap.size, 3, none⟩ (.slice none 0 0)).setCell ⟨w.heap.size, 4, none⟩ (.slice none 0 0)).alloc o) := fun o =>
    (((((O2.out.setCell (p := ⟨w.heap.size, 0, none⟩) (.inr (Nat.le_refl _)) _).setCell (p := ⟨w.heap.size, 1, none⟩) (.inr (Nat.le_refl _)) _).setCell (p := ⟨w.heap.size, 2, none⟩) (.inr (Nat.le_refl _)) _).setCell (p := ⟨w.heap.size, 3, none⟩) (.inr (Nat.le_refl _)) _).setCell (p := ⟨w.heap.size, 4, none⟩) (.inr (Nat.le_refl _)) _).alloc o
  have HWW := Lib.hid hW; have OWW := Lib.hid oW; clear hW oW
  go_wp2_with fail
  have hN := HWW.out (.cells #[.int .u8 0, .int .i64 0, .string ByteArray.empty, .slice none 0 0, .slice none 0 0] 35)
  have oN := OWW.out (.cells #[.int .u8 0, .int .i64 0, .string ByteArray.empty, .slice none 0 0, .slice none 0 0] 35)
  generalize ((((((w2.setCell ⟨w.heap.size, 0, none⟩ (.int .u8 0)).setCell ⟨w.heap.size, 1, none⟩ (.int .i64 0)).setCell ⟨w.heap.size, 2, none⟩ (.string ByteArray.empty)).setCell ⟨w.heap.size, 3, none⟩ (.slice none 0 0)).setCell ⟨w.heap.size, 4, none⟩ (.slice none 0 0)).alloc (.cells #[.int .u8 0, .int .i64 0, .string ByteArray.empty, .slice none 0 0, .slice none 0 0] 35)) = wz at hN oN ⊢
  obtain ⟨z0, z1, z2, z3, z4⟩ := box_cells hN
  exact bodyPost_ret (v := .agg #[.int .u8 0, .int .i64 0, .string ByteArray.empty, .slice none 0 0, .slice none 0 0]) (by simp [results, Try.results39, go_sem, z0, z1, z2, z3, z4]) rfl ⟨rfl, oN⟩
set_option maxRecDepth 100000 in
theorem same_empty (w : World) : Calls Try.prog 38 #[.agg #[.int .u8 0, .int .i64 0, .string ByteArray.empty, .slice none 0 0, .slice none 0 0], .agg #[.int .u8 0, .int .i64 0, .string ByteArray.empty, .slice none 0 0, .slice none 0 0]] w fun e w' => e = .returned (.bool true) ∧ Only (fun _ => False) w w' := by
  go_enter Try.func38, Try.ntmps38
  go_wp2_with fail
  refine wp_loop_rounds 1 ?_
  rw [rounds_succ]
  go_wp2_with fail
  refine wp_loop_rounds 1 ?_
  rw [rounds_succ]
  go_wp2
  go_ret
  exact ⟨rfl, by (repeat' (first | (with_reducible exact Only.refl _ _) | (with_reducible assumption) | (with_reducible refine Only.drew ?_) | (with_reducible refine Only.drewN ?_ _) | (with_reducible refine Only.alloc ?_ _) | (with_reducible refine Only.setCell ?_ ?_ _) | (first | exact Or.inl rfl | exact Or.inl (Or.inl rfl) | exact Or.inl (Or.inr rfl) | (simp; omega) | (simp; done) | omega)))⟩
end Go.Proofs.Ytoojnpafcdaflaa
