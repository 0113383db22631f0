/- columbarylaw03.WireNil: the walk. -/
import Derived.Test.YtoojnpafcdaflaaNil
namespace Go.Proofs.Ytoojnpafcdaflaa
open Go Go.RowKit
set_option linter.unusedVariables false
set_option linter.unusedSimpArgs false

theorem ent_cells {w : World} {g : Nat} {c0 c1 c2 c3 : Value} (h : w.heap[g]? = some (.cells #[c0, c1, c2, c3] 69 (0, 0))) :
    w.cell? ⟨g, 0, none⟩ = some c0 ∧ w.cell? ⟨g, 1, none⟩ = some c1 ∧ w.cell? ⟨g, 2, none⟩ = some c2 ∧ w.cell? ⟨g, 3, none⟩ = some c3 := by
  refine ⟨?_, ?_, ?_, ?_⟩ <;> simp [World.cell?, h]
set_option maxRecDepth 100000 in
set_option maxHeartbeats 2000000 in
theorem entity_nil (w : World) : Calls Try.prog 45 #[.pointer none] w fun e w' => e = .returned (.agg #[.string ByteArray.empty, .string ByteArray.empty, .slice none 0 0, .slice none 0 0]) ∧ Only (fun _ => False) w w' := by
  have hz := zero_V
  have hzE := zero_E
  have hset : ∀ (wx : World) (g : Nat), wx.heap[g]? = some (.cells #[.string ByteArray.empty, .string ByteArray.empty, .slice none 0 0, .slice none 0 0] 69 (0, 0)) → ((((wx.setCell ⟨g, 0, none⟩ (.string ByteArray.empty)).setCell ⟨g, 1, none⟩ (.string ByteArray.empty)).setCell ⟨g, 2, none⟩ (.slice none 0 0)).setCell ⟨g, 3, none⟩ (.slice none 0 0)).heap[g]? = some (.cells #[.string ByteArray.empty, .string ByteArray.empty, .slice none 0 0, .slice none 0 0] 69 (0, 0)) := fun wx g h => by
    have := heap_set (o := 3) (heap_set (o := 2) (heap_set (o := 1) (heap_set (o := 0) h (.string ByteArray.empty)) (.string ByteArray.empty)) (.slice none 0 0)) (.slice none 0 0)
    simpa using this
  have HSET := Lib.hid hset; clear hset
  go_enter Try.func45, Try.ntmps45
  go_wp2_with fail
  refine (rtext_nil _ _).mono ?_
  rintro e w2 ⟨rfl, rfl⟩
  go_wp2_with fail
  refine (rtext_nil _ _).mono ?_
  rintro e w2 ⟨rfl, rfl⟩
  go_wp2_with fail
  refine (rvalue_nil _).mono ?_
  rintro e w2 ⟨rfl, o2⟩
  have hc : w2.heap[w.heap.size]? = some (.cells #[.string ByteArray.empty, .string ByteArray.empty, .slice none 0 0, .slice none 0 0] 69 (0, 0)) := by
    rw [o2.block _ (by simp; omega) (fun h => h)]
    exact heap_old (heap_new w _) _
  have o2' : Only (fun _ => False) w w2 := (((Only.refl (fun _ => False) w).alloc _).alloc _).trans o2
  have HC := Lib.hid hc; have O2 := Lib.hid o2'; clear hc o2 o2'
  go_upto_region 3 with (fail)
  go_quiet (fail)
  go_wp2_with fail
  refine (fail_nil _).mono ?_
  rintro e w3 ⟨rfl, hw3⟩
  have hc3 : w3.heap[w.heap.size]? = some (.cells #[.string ByteArray.empty, .string ByteArray.empty, .slice none 0 0, .slice none 0 0] 69 (0, 0)) := by rw [← hw3]; exact heap_drewN (heap_old HC.out _) _
  have o3 : Only (fun _ => False) w w3 := by rw [← hw3]; exact (O2.out.alloc _).drewN _
  obtain ⟨e0, e1, e2, e3⟩ := ent_cells hc3
  have hfz : ∀ o, w3.frozen? ⟨w.heap.size, o, none⟩ = false := fun o => by simp [World.frozen?, hc3]
  have HC3 := Lib.hid hc3; have O3 := Lib.hid o3; clear hc3 o3 hw3
  go_wp2_with fail
  refine (bad_nil _).mono ?_
  rintro e w4 ⟨rfl, rfl⟩
  go_wp2_with fail
  have hN := HSET.out w3 _ HC3.out
  have oN : Only (fun _ => False) w ((((w3.setCell ⟨w.heap.size, 0, none⟩ (.string ByteArray.empty)).setCell ⟨w.heap.size, 1, none⟩ (.string ByteArray.empty)).setCell ⟨w.heap.size, 2, none⟩ (.slice none 0 0)).setCell ⟨w.heap.size, 3, none⟩ (.slice none 0 0)) :=
    (((O3.out.setCell (p := ⟨w.heap.size, 0, none⟩) (.inr (Nat.le_refl _)) _).setCell (p := ⟨w.heap.size, 1, none⟩) (.inr (Nat.le_refl _)) _).setCell (p := ⟨w.heap.size, 2, none⟩) (.inr (Nat.le_refl _)) _).setCell (p := ⟨w.heap.size, 3, none⟩) (.inr (Nat.le_refl _)) _
  generalize ((((w3.setCell ⟨w.heap.size, 0, none⟩ (.string ByteArray.empty)).setCell ⟨w.heap.size, 1, none⟩ (.string ByteArray.empty)).setCell ⟨w.heap.size, 2, none⟩ (.slice none 0 0)).setCell ⟨w.heap.size, 3, none⟩ (.slice none 0 0)) = wz at hN oN ⊢
  clear e0 e1 e2 e3
  obtain ⟨z0, z1, z2, z3⟩ := ent_cells hN
  exact bodyPost_ret (v := .agg #[.string ByteArray.empty, .string ByteArray.empty, .slice none 0 0, .slice none 0 0]) (by simp [results, Try.results45, go_sem, z0, z1, z2, z3]) rfl ⟨rfl, oN⟩
set_option maxRecDepth 100000 in
set_option maxHeartbeats 2000000 in
theorem nil_walk (n most : Int) (w : World) (w0 : (Lit.int .u64 n).wf = true) (w1 : (Lit.int .i64 most).wf = true) :
    Calls Try.prog 10 #[.int .u64 n, .int .i64 most] w fun e w' => e = .returned (.bool true) ∧ Below w.heap.size w w' := by
  clear w0 w1
  have hfield : ∀ w : World, (Instr.field 69 (.agg #[.string ByteArray.empty, .string ByteArray.empty, .slice none 0 0, .slice none 0 0]) 1).run Try.prog w = .ok (.string ByteArray.empty) w := fun w => by kernel_rfl
  go_enter Try.func10, Try.ntmps10
  go_wp2_with fail
  refine (awake_any _).mono ?_
  rintro e w1 ⟨rfl, o1⟩
  go_wp2_with fail
  refine (bad_nil _).mono ?_
  rintro e w2 ⟨rfl, rfl⟩
  go_wp2_with fail
  refine (end_nil _).mono ?_
  rintro e w2 ⟨rfl, rfl⟩
  go_wp2_with fail
  refine (ruint_nil _ _).mono ?_
  rintro e w2 ⟨rfl, rfl⟩
  go_wp2_with fail
  refine (rint_nil _).mono ?_
  rintro e w2 ⟨rfl, rfl⟩
  go_wp2_with fail
  refine (rtext_nil _ _).mono ?_
  rintro e w2 ⟨rfl, rfl⟩
  go_wp2_with fail
  refine (rvalue_nil _).mono ?_
  rintro e w2 ⟨rfl, o2⟩
  go_wp2_with fail
  refine (same_empty _).mono ?_
  rintro e w3 ⟨rfl, o3⟩
  go_wp2_with fail
  refine (entity_nil _).mono ?_
  rintro e w4 ⟨rfl, o4⟩
  go_wp2
  go_ret
  exact ⟨rfl, (((o1.trans o2).trans o3).trans o4).still⟩
end Go.Proofs.Ytoojnpafcdaflaa
