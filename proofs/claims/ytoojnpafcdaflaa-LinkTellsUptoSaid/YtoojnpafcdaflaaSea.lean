/- Sealed bytes: the writer's Sealed, and the document's Seal. -/
import Derived.Test.YtoojnpafcdaflaaWrt
import Derived.Test.YtoojnpafcdaflaaSum
namespace Go.Proofs.Ytoojnpafcdaflaa
open Go Go.RowKit
set_option linter.unusedVariables false
set_option linter.unusedSimpArgs false

def sumB (s : Nat) : List UInt8 := [UInt8.ofNat (s % 256), UInt8.ofNat (s / 256 % 256), UInt8.ofNat (s / 65536 % 256), UInt8.ofNat (s / 16777216 % 256)]
def sealed (l : List UInt8) : List UInt8 := l ++ sumB (crc l)
theorem u8s_sumB (s : Nat) : u8s (sumB s) = [.int .u8 ((s : Int) % 256), .int .u8 ((s : Int) / 256 % 256), .int .u8 ((s : Int) / 65536 % 256), .int .u8 ((s : Int) / 16777216 % 256)] := by
  have h : ∀ n : Nat, n < 256 → ((UInt8.ofNat n).toNat : Int) = (n : Int) := by intro n hn; simp; omega
  simp only [sumB, u8s, List.map_cons, List.map_nil]
  rw [h _ (by omega), h _ (by omega), h _ (by omega), h _ (by omega)]
  simp
set_option maxRecDepth 100000 in
theorem wSealed (b : Nat) (v : Value) (l : List UInt8) (w : World) (hw : w.heap[b]? = some (.cells #[v] 26)) (hb : Bytes w v l) (hl : l.length ≤ 100000000000) :
    Calls Try.prog 21 #[.pointer (some ⟨b, 0, none⟩)] w (Makes w (sealed l)) := by
  have hs := lsum v l w hb
  have hc := clone_any v l w hb hl
  have hclt := crc_lt l
  have hsb := u8s_sumB (crc l)
  generalize hcr : crc l = c at *
  have HCR := Lib.hid hcr; have HS := Lib.hid hs; have HC := Lib.hid hc; have HSB := Lib.hid hsb; clear hcr hs hc hsb
  have HB := Lib.hid hb
  obtain ⟨a, cap, rfl, h1, h2, h3⟩ := hb
  clear h3
  have c0 : w.cell? ⟨b, 0, none⟩ = some (.slice a l.length cap) := by simp [World.cell?, hw]
  have fz : w.frozen? ⟨b, 0, none⟩ = false := by simp [World.frozen?, hw]
  clear hw
  have hc0 : (0 : Int) ≤ (c : Int) := by omega
  have HLL := Lib.hid hl; have HCL := Lib.hid hclt; clear hl hclt
  go_enter Try.func21, Try.ntmps21
  go_wp2_with fail
  refine HS.out.mono ?_
  rintro e w1 ⟨rfl, rfl⟩
  go_wp2_with fail
  refine HC.out.mono ?_
  rintro e w2 ⟨v2, rfl, h2, o2⟩
  have hn := bytes_new w2 (sumB c) 5 (0, 0) 4 (by simp [sumB]) (by omega) (C := #[.int .u8 ((c : Int) % 256), .int .u8 ((c : Int) / 256 % 256), .int .u8 ((c : Int) / 65536 % 256), .int .u8 ((c : Int) / 16777216 % 256)]) (by rw [HSB.out])
  have hn' := h2.still ((Only.refl (fun _ => False) w2).alloc (.cells #[.int .u8 ((c : Int) % 256), .int .u8 ((c : Int) / 256 % 256), .int .u8 ((c : Int) / 65536 % 256), .int .u8 ((c : Int) / 16777216 % 256)] 5))
  have on := (Only.refl (fun _ => False) w2).alloc (.cells #[.int .u8 ((c : Int) % 256), .int .u8 ((c : Int) / 256 % 256), .int .u8 ((c : Int) / 65536 % 256), .int .u8 ((c : Int) / 16777216 % 256)] 5)
  have HN := Lib.hid hn; have HN' := Lib.hid hn'; have ON := Lib.hid on; have O2 := Lib.hid o2; clear hn hn' on o2 h2
  go_wp2_with ((refine wpList_append8 (o := ⟨some 26, _, _, _, _, _⟩) rfl (.tmp 13) (.tmp 25) (by rfl) w.heap.size _ _ l (sumB c) (by rfl) (by rfl) HN'.out HN.out (by have := HLL.out; simp [sumB]; omega) (Nat.le_trans O2.out.size ON.out.size) ?_; intro L a3 c3 w3 hL h3 g3))
  go_ret
  have e1 := hL.out
  rw [show l ++ sumB c = sealed l from by unfold sealed; rw [HCR.out]] at e1
  subst e1
  exact ⟨_, rfl, h3.out, g3.out.step (O2.out.trans ON.out) (fun k hk => .inr (HN'.out.ge hk).1)⟩

set_option maxRecDepth 100000 in
set_option maxHeartbeats 2000000 in
theorem rSeal (v : Value) (l : List UInt8) (w : World) (hb : Bytes w v l) (hl : l.length ≤ 100000000000) :
    Calls Try.prog 22 #[v] w (Makes w (sealed l)) := by
  have hclt := crc_lt l
  have hsb := u8s_sumB (crc l)
  have hs := fun w' (h : Bytes w' v l) => rsum v l w' h
  generalize hcr : crc l = c at *
  have HCR := Lib.hid hcr; have HSB := Lib.hid hsb; have HS := Lib.hid hs; clear hcr hsb hs
  have HB := Lib.hid hb
  obtain ⟨a, cap, rfl, h1, h2, h3⟩ := hb
  clear h3
  have hc0 : (0 : Int) ≤ (c : Int) := by omega
  have HCL := Lib.hid hclt; clear hclt
  go_enter Try.func22, Try.ntmps22
  go_wp2_with ((refine wpList_append8 (o := ⟨some 8, _, _, _, _, _⟩) rfl (.tmp 6) (.tmp 7) (by rfl) w.heap.size _ _ [] l (by rfl) (by rfl) (Own8.nil w _) HB.out (by simp; omega) (Nat.le_refl _) ?_; intro L a3 c3 w3 hL h3 g3))
  have o3 := g3.out.step (Only.refl (fun _ => False) w) (fun k hk => by cases hk)
  have hb3 := HB.out.still o3
  have hown3 : Own8 w3 w.heap.size (.slice a3 L.length c3) (l ++ (sumB c).take 0) := by rw [List.take_zero, List.append_nil]; have := h3.out; rw [hL.out, List.nil_append] at this ⊢; exact this
  have hS3 := HS.out w3 hb3
  have HS3 := Lib.hid hS3; have O3 := Lib.hid o3; have OWN3 := Lib.hid hown3; clear hS3 o3 hown3 hb3
  refine HS3.out.mono ?_
  rintro e w4 ⟨rfl, rfl⟩
  go_wp2_with fail
  go_loopw [3, 5] (fun v i wr => ∃ k : Nat, i = .int .i64 k ∧ k ≤ 4 ∧ Hid (Own8 wr w.heap.size v (l ++ (sumB c).take k)) ∧ Hid (Only (fun _ => False) w wr)) (fun _ i _ => 4 - (intOf i).toNat)
  case atStart => exact ⟨0, by simp, by omega, OWN3, O3⟩
  case round =>
    obtain ⟨k, rfl, hk, HO, HW⟩ := hrel
    by_cases hlt : k < 4
    · have hcase : k = 0 ∨ k = 1 ∨ k = 2 ∨ k = 3 := by omega
      have key : ∀ (x : UInt8) (X : Int), u8s [x] = [.int .u8 X] → l ++ (sumB c).take (k + 1) = (l ++ (sumB c).take k) ++ [x] →
          Hid (Bytes (wr.alloc (.cells #[.int .u8 X] 5)) (.slice (some ⟨wr.heap.size, 0, none⟩) 1 1) [x]) ∧ Hid (Only (fun _ => False) wr (wr.alloc (.cells #[.int .u8 X] 5))) ∧ Hid (l ++ (sumB c).take (k + 1) = (l ++ (sumB c).take k) ++ [x]) := by
        intro x X hx he
        exact ⟨Lib.hid (bytes_new wr [x] _ _ 1 (by simp) (by omega) (by rw [hx])), Lib.hid ((Only.refl _ wr).alloc _), Lib.hid he⟩
      have h8 : ∀ n : Nat, n < 256 → u8s [UInt8.ofNat n] = [.int .u8 (n : Int)] := fun n hn => u8s_ofNat hn
      have HH8 := Lib.hid h8; have KEY := Lib.hid key; have HLL := Lib.hid hl; clear h8 key hl
      rcases hcase with rfl | rfl | rfl | rfl
      · have t1 : decide (((0 : Nat) : Int) < 4) = true := by decide
        obtain ⟨K1, K2, K3⟩ := KEY.out (UInt8.ofNat (c % 256)) ((c : Int) % 256) (by rw [HH8.out _ (by omega)]; simp) (by simp [sumB])
        go_wp2_with ((refine wpList_append8 (o := ⟨some 22, _, _, _, _, _⟩) rfl (.tmp 15) (.tmp 21) (by rfl) w.heap.size _ _ (l ++ (sumB c).take 0) [UInt8.ofNat (c % 256)] (by rfl) (by rfl) (HO.out.still K2.out) K1.out (by have := HLL.out; simp [sumB]; omega) (Nat.le_trans HW.out.size K2.out.size) ?_; intro L a3 c3 w3 hL h3 g3))
        go_roundw
        case rel => exact ⟨1, by simp, by omega, Lib.hid (by rw [K3.out, ← hL.out]; exact h3.out), Lib.hid (g3.out.step (HW.out.trans K2.out) (fun k hk => .inr ((HO.out.still K2.out).ge hk).1))⟩
        case measure => simp [intOf]
      · have t1 : decide (((1 : Nat) : Int) < 4) = true := by decide
        obtain ⟨K1, K2, K3⟩ := KEY.out (UInt8.ofNat (c / 256 % 256)) ((c : Int) / 256 % 256) (by rw [HH8.out _ (by omega)]; simp) (by simp [sumB])
        go_wp2_with ((refine wpList_append8 (o := ⟨some 22, _, _, _, _, _⟩) rfl (.tmp 15) (.tmp 21) (by rfl) w.heap.size _ _ (l ++ (sumB c).take 1) [UInt8.ofNat (c / 256 % 256)] (by rfl) (by rfl) (HO.out.still K2.out) K1.out (by have := HLL.out; simp [sumB]; omega) (Nat.le_trans HW.out.size K2.out.size) ?_; intro L a3 c3 w3 hL h3 g3))
        go_roundw
        case rel => exact ⟨2, by simp, by omega, Lib.hid (by rw [K3.out, ← hL.out]; exact h3.out), Lib.hid (g3.out.step (HW.out.trans K2.out) (fun k hk => .inr ((HO.out.still K2.out).ge hk).1))⟩
        case measure => simp [intOf]
      · have t1 : decide (((2 : Nat) : Int) < 4) = true := by decide
        obtain ⟨K1, K2, K3⟩ := KEY.out (UInt8.ofNat (c / 65536 % 256)) ((c : Int) / 65536 % 256) (by rw [HH8.out _ (by omega)]; simp) (by simp [sumB])
        go_wp2_with ((refine wpList_append8 (o := ⟨some 22, _, _, _, _, _⟩) rfl (.tmp 15) (.tmp 21) (by rfl) w.heap.size _ _ (l ++ (sumB c).take 2) [UInt8.ofNat (c / 65536 % 256)] (by rfl) (by rfl) (HO.out.still K2.out) K1.out (by have := HLL.out; simp [sumB]; omega) (Nat.le_trans HW.out.size K2.out.size) ?_; intro L a3 c3 w3 hL h3 g3))
        go_roundw
        case rel => exact ⟨3, by simp, by omega, Lib.hid (by rw [K3.out, ← hL.out]; exact h3.out), Lib.hid (g3.out.step (HW.out.trans K2.out) (fun k hk => .inr ((HO.out.still K2.out).ge hk).1))⟩
        case measure => simp [intOf]
      · have t1 : decide (((3 : Nat) : Int) < 4) = true := by decide
        obtain ⟨K1, K2, K3⟩ := KEY.out (UInt8.ofNat (c / 16777216 % 256)) ((c : Int) / 16777216 % 256) (by rw [HH8.out _ (by omega)]; simp) (by simp [sumB])
        go_wp2_with ((refine wpList_append8 (o := ⟨some 22, _, _, _, _, _⟩) rfl (.tmp 15) (.tmp 21) (by rfl) w.heap.size _ _ (l ++ (sumB c).take 3) [UInt8.ofNat (c / 16777216 % 256)] (by rfl) (by rfl) (HO.out.still K2.out) K1.out (by have := HLL.out; simp [sumB]; omega) (Nat.le_trans HW.out.size K2.out.size) ?_; intro L a3 c3 w3 hL h3 g3))
        go_roundw
        case rel => exact ⟨4, by simp, by omega, Lib.hid (by rw [K3.out, ← hL.out]; exact h3.out), Lib.hid (g3.out.step (HW.out.trans K2.out) (fun k hk => .inr ((HO.out.still K2.out).ge hk).1))⟩
        case measure => simp [intOf]
    · have hke : k = 4 := by omega
      subst hke
      have t1 : decide (((4 : Nat) : Int) < 4) = false := by decide
      have h9 := HO.out
      rw [List.take_of_length_le (by simp [sumB]), show l ++ sumB c = sealed l from by unfold sealed; rw [HCR.out]] at h9
      have H9 := Lib.hid h9; clear h9
      go_wp2
      go_ret
      exact ⟨_, rfl, H9.out, HW.out⟩
end Go.Proofs.Ytoojnpafcdaflaa
