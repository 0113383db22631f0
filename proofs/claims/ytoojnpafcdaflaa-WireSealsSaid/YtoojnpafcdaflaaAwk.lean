/- columbarylaw03.awake. -/
import Derived.Test.YtoojnpafcdaflaaWvb
namespace Go.Proofs.Ytoojnpafcdaflaa
open Go Go.RowKit
set_option linter.unusedVariables false
set_option linter.unusedSimpArgs false

theorem heap_new' {w : World} {n : Nat} (o : Obj) (h : w.heap.size = n) : (w.alloc o).heap[n]? = some o := by subst h; exact heap_new w o
theorem enc300 : encU 300 = [172, 2] := by rw [encU_big (by decide), encU_small (by decide)]; rfl
def tree0 : VT := .mk 5 0 [] [] [.mk 1 1 [] [] [], .mk 3 1 [] [] []]
theorem encTree0 : encV tree0 = [5, 2, 1, 2, 3, 2] := by
  unfold tree0
  simp only [encV, encVs]
  rw [encU_small (n := 5) (by decide), encU_small (n := 1) (by decide), encU_small (n := 3) (by decide), encU_small (n := zig 1) (by decide)]
  simp
  rw [encU_small (n := 2) (by decide)]
  rfl
theorem good0 : GoodV tree0 := by
  unfold tree0
  simp [GoodV, GoodVs]
set_option maxRecDepth 100000 in
set_option maxHeartbeats 2000000 in
theorem awake_any (w : World) : Calls Try.prog 17 #[] w fun e w' => e = .returned (.bool true) ∧ Only (fun _ => False) w w' := by
  have hz := zero_V
  have h4 : ∃ w4, w4 = ((((w.alloc (Obj.cells #[Value.slice none 0 0] 26)).alloc (Obj.cells #[Value.slice none 0 0] 26)).alloc (Obj.cells #[Value.int IntKind.u8 1, Value.int IntKind.i64 1, Value.string ByteArray.empty, Value.slice none 0 0, Value.slice none 0 0, Value.int IntKind.u8 3, Value.int IntKind.i64 1, Value.string ByteArray.empty, Value.slice none 0 0, Value.slice none 0 0] 35)).alloc (Obj.cells #[Value.int IntKind.u8 5, Value.int IntKind.i64 0, Value.string ByteArray.empty, Value.slice none 0 0, Value.slice (some { block := w.heap.size + 1 + 1, off := 0 }) 2 2] 35)) := ⟨_, rfl⟩
  obtain ⟨w4, h4⟩ := h4
  have hA : w4.heap[w.heap.size]? = some (.cells #[Value.slice none 0 0] 26 (0, 0)) := by rw [h4]; exact heap_old (heap_old (heap_old (heap_new w _) _) _) _
  have hB : w4.heap[w.heap.size + 1]? = some (.cells #[Value.slice none 0 0] 26 (0, 0)) := by rw [h4]; exact heap_old (heap_old (heap_new' _ (by simp)) _) _
  have hC : w4.heap[w.heap.size + 1 + 1]? = some (.cells #[Value.int IntKind.u8 1, Value.int IntKind.i64 1, Value.string ByteArray.empty, Value.slice none 0 0, Value.slice none 0 0, Value.int IntKind.u8 3, Value.int IntKind.i64 1, Value.string ByteArray.empty, Value.slice none 0 0, Value.slice none 0 0] 35 (0, 0)) := by rw [h4]; exact heap_old (heap_new' _ (by simp)) _
  have hD : w4.heap[w.heap.size + 1 + 1 + 1]? = some (.cells #[Value.int IntKind.u8 5, Value.int IntKind.i64 0, Value.string ByteArray.empty, Value.slice none 0 0, Value.slice (some { block := w.heap.size + 1 + 1, off := 0 }) 2 2] 35 (0, 0)) := by rw [h4]; exact heap_new' _ (by simp)
  have o4 : Only (fun _ => False) w w4 := by rw [h4]; exact (((((Only.refl _ w).alloc _).alloc _).alloc _).alloc _)
  have hU : Calls Try.prog 27 #[.pointer (some ⟨w.heap.size, 0, none⟩), .int .u64 300] w4 _ := wUint_s 300 (fun q => q = w.heap.size) w.heap.size w4 [] w4 (WS.new hA) (by decide) (by decide)
  rw [List.nil_append, enc300] at hU
  have HA := Lib.hid hA; have HB := Lib.hid hB; have HC := Lib.hid hC; have HD := Lib.hid hD; have O4 := Lib.hid o4; have HU := Lib.hid hU; have H4 := Lib.hid h4
  clear hA hB hC hD o4 hU h4
  go_enter Try.func17, Try.ntmps17
  go_upto_region 4 with (fail)
  rw [← H4.out]
  clear hz
  go_wp2_with fail
  refine HU.out.mono ?_
  rintro e w5 ⟨rfl, h5⟩
  have o5 := h5.only
  have hd5 := wDone_s _ _ _ _ w5 h5 (by decide)
  have HD5 := Lib.hid hd5; have O5 := Lib.hid o5; clear hd5 o5 h5
  go_wp2_with fail
  refine HD5.out.mono ?_
  rintro e w6 ⟨v6, rfl, h6, o6⟩
  have hc6 := h6.bytes.conv
  have o46 : Only (fun q => q = w.heap.size) w4 w6 := O5.out.trans' o6 (fun _ _ h => h.elim)
  have hl0 := (Array.getElem?_eq_some_iff.1 HD.out).1
  have hB6 : w6.heap[w.heap.size + 1]? = some (.cells #[Value.slice none 0 0] 26 (0, 0)) := by rw [o46.block _ (by omega) (by omega)]; exact HB.out
  have hC6 := (o46.block (w.heap.size + 1 + 1) (by omega) (by omega)).trans HC.out
  have hD6 := (o46.block (w.heap.size + 1 + 1 + 1) (by omega) (by omega)).trans HD.out
  obtain ⟨d0, d1, d2, d3, d4⟩ := box_cells hD6
  have hl6 := (Array.getElem?_eq_some_iff.1 hD6).1
  have hr6 := range_of_block (cs := [Value.int IntKind.u8 1, Value.int IntKind.i64 1, Value.string ByteArray.empty, Value.slice none 0 0, Value.slice none 0 0, Value.int IntKind.u8 3, Value.int IntKind.i64 1, Value.string ByteArray.empty, Value.slice none 0 0, Value.slice none 0 0]) hC6
  have hval : ValAt w6 (fun q => q = w.heap.size + 1 + 1) tree0 [Value.int IntKind.u8 5, Value.int IntKind.i64 0, Value.string ByteArray.empty, Value.slice none 0 0, Value.slice (some { block := w.heap.size + 1 + 1, off := 0 }) 2 2] := by
    unfold tree0
    simp only [ValAt, ValsAt]
    refine ⟨none, 0, _, 2, rfl, by decide, by decide, by decide, by decide, by decide, fun h => absurd h (by decide), fun _ => ⟨_, 0, rfl, rfl, by omega, ⟨_, rfl, fun j v hv => hr6 j v (by
      rcases j with _ | _ | _ | _ | _ | j <;> simp at hv ⊢ <;> exact hv), none, 0, none, 0, rfl, by decide, by decide, by decide, by decide, by decide, fun h => absurd h (by decide), fun h => absurd h (by decide)⟩, ⟨_, rfl, fun j v hv => by
      have := hr6 (5 + j) v (by
        rcases j with _ | _ | _ | _ | _ | j <;> simp at hv ⊢ <;> exact hv)
      simpa using this, none, 0, none, 0, rfl, by decide, by decide, by decide, by decide, by decide, fun h => absurd h (by decide), fun h => absurd h (by decide)⟩, trivial⟩⟩
  have hv := wValue _ tree0 (Nat.le_refl _) (fun q => q = w.heap.size + 1) (fun q => q = w.heap.size + 1 + 1) (w.heap.size + 1) w6 [] w6 _ (WS.new hB6) hval good0 (fun q hq => by subst hq; exact ⟨by omega, by omega⟩) (by rw [encTree0]; decide) (by rw [encTree0]; decide)
  rw [List.nil_append, encTree0] at hv
  have HV := Lib.hid hv; have O46 := Lib.hid o46; clear hv hval hr6 hC6 hD6 hB6 h6 o6 o46
  go_wp2_with fail
  refine HV.out.mono ?_
  rintro e w7 ⟨rfl, h7⟩
  have o7 := h7.only
  have hd7 := wDone_s _ _ _ _ w7 h7 (by decide)
  have HD7 := Lib.hid hd7; have O7 := Lib.hid o7; clear hd7 o7 h7 hc6 d0 d1 d2 d3 d4
  go_wp2_with fail
  refine HD7.out.mono ?_
  rintro e w8 ⟨v8, rfl, h8, o8⟩
  have hc8 := h8.bytes.conv
  have O8 := Lib.hid o8; clear h8 o8
  go_wp2
  go_ret
  exact ⟨rfl, ((O4.out.trans' O46.out (fun k hk e => by omega)).trans' O7.out (fun k hk e => by omega)).trans O8.out⟩
end Go.Proofs.Ytoojnpafcdaflaa
