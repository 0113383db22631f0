/- The reference's disk (columbaryref01): full, done. -/
import Derived.Test.YtlkglhgndfhjeaaRkA
import Derived.Lib.BufferWrite
namespace Go.Proofs.Ytlkglhgndfhjeaa
open Go Go.RowKit
set_option linter.unusedVariables false
set_option linter.unusedSimpArgs false
set_option maxRecDepth 100000

theorem pad_eq (l : List UInt8) (h : l.length ≤ 64) : (List.map (fun b : UInt8 => Value.int .u8 (b.toNat : Int)) l) ++ (u8s zeros64).drop l.length = u8s (pad64 l) := by
  unfold pad64 zeros64
  rw [u8s_append, ← u8s_drop, List.drop_replicate]; rfl
set_option maxHeartbeats 2000000 in
theorem rkFull (l : List UInt8) (w : World) (hl : l.length ≤ 64) :
    Calls Try.prog 49 #[.string ⟨l.toArray⟩] w fun e w' => e = .returned (.string ⟨(pad64 l).toArray⟩) ∧ Only (fun _ => False) w w' := by
  have hmk := make64 w
  have hsz : (⟨l.toArray⟩ : ByteArray).size = l.length := by simp [ByteArray.size]
  have hcp := Lib.run_copy_row_string (P := Try.prog) (w.alloc (.cells zeroB 5)) 22 9 3 5 w.heap.size 0 64 64 ⟨l.toArray⟩ zeroB 5 Try.underlying22 sizeB (heap_new _ _) (by rw [hsz]; exact hl) (by rw [hsz]; simp [zeroB, u8s_len, zeros64]; omega)
  obtain ⟨w3, hw3⟩ : ∃ w3, w3 = (w.alloc (.cells zeroB 5)).setRow w.heap.size (Lib.byteCells l ++ List.drop l.length zeroB.toList).toArray := ⟨_, rfl⟩
  have e1 : (Lib.byteCells l ++ List.drop l.length zeroB.toList).toArray = (u8s (pad64 l)).toArray := by
    rw [← pad_eq l hl]; rfl
  have hh : w3.heap[w.heap.size]? = some (.cells (u8s (pad64 l)).toArray 5 (0, 0)) := by
    rw [hw3, ← e1]; exact setRow_heap _ _ _ _ _ _ (heap_new w (.cells zeroB 5))
  have hb := bytes_block hh (lo := 0) (n := 64) (cap := 64) (by rw [pad64_len hl]; decide) (by decide) (by decide)
  have ho : Only (fun _ => False) w w3 := by
    have o1 := (Only.refl (fun _ => False) w).alloc (.cells zeroB 5)
    refine o1.trans' (T := fun k => k = w.heap.size) ?_ (fun k hk e => by omega)
    rw [hw3]
    exact ⟨rfl, rfl, rfl, by simp [World.setRow], fun k _ hk => setRow_other _ _ k _ hk⟩
  have e2 : ((pad64 l).drop 0).take 64 = pad64 l := by
    rw [List.drop_zero, List.take_of_length_le (by rw [pad64_len hl]; decide)]
  rw [e2] at hb
  have hcv := hb.conv
  rw [hw3] at hcv
  have HO := Lib.hid ho; have HW := Lib.hid hw3; clear ho hw3 hb hh e1 e2 hl
  go_enter Try.func49, Try.ntmps49
  go_wp2_with fail
  rw [← HW.out]
  go_ret
  exact ⟨rfl, HO.out⟩
end Go.Proofs.Ytlkglhgndfhjeaa
