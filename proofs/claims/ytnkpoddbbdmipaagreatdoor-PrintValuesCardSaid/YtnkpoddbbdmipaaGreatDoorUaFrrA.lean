/- . -/
import Derived.Test.YtnkpoddbbdmipaaGreatDoorUaVlp
namespace Go.Proofs.YtnkpoddbbdmipaaGreatDoor
open Go Go.RowKit
open Go.Lib (hid)
set_option linter.unusedVariables false
set_option linter.unusedSimpArgs false
set_option maxRecDepth 100000 in
set_option maxHeartbeats 40000000 in
theorem rForm_A (z : Nat) (ih : FormIH 17 z) : ∀ (t : VT), SizeOf.sizeOf t ≤ z + 1 → (t.kind = 0 ∨ t.kind = 1 ∨ t.kind = 3) → ∀ (G : Nat → Prop) (w : World) (cs : List Value) (d : Nat), ValAt w G t cs → d ≤ 1000 →
  Calls Tryz.prog 17 #[.agg cs.toArray, .int .i64 d] w (fun e w' => e = .returned (.bool (formV t d)) ∧ Only (fun _ => False) w w') := by
 intro t ht hcase G w cs d hv hd; obtain ⟨k, n, s, ks, vs⟩ := t; rw [VT.kind_mk] at hcase; have IH := hid ih; clear ih; have HT := hid ht; clear ht; simp only [ValAt] at hv; obtain ⟨ak, ck, av, cv, rfl, hk, hn, hs, hck, hcv, hK, hV⟩ := hv; simp only [formV]; obtain ⟨lv, hlv⟩ : ∃ lv, lv = vs.length := ⟨_, rfl⟩; obtain ⟨lk, hlk⟩ : ∃ lk, lk = ks.length := ⟨_, rfl⟩; rw [← hlv] at hcv ⊢; rw [← hlk] at hck ⊢; have HLV := hid hlv; have HLK := hid hlk; clear hlv hlk; have hwb : ∃ wb, wb = w.alloc (.cells #[.int .u8 k, .int .i64 n, .string ⟨s.toArray⟩, .slice ak lk ck, .slice av lv cv] 35) := ⟨_, rfl⟩; obtain ⟨wb, hwb⟩ := hwb; have ob : Only (fun _ => False) w wb := by rw [hwb]; exact (Only.refl _ w).alloc _
 have hbox : wb.heap[w.heap.size]? = some (.cells #[.int .u8 k, .int .i64 n, .string ⟨s.toArray⟩, .slice ak lk ck, .slice av lv cv] 35 (0, 0)) := by rw [hwb]; exact heap_new w _
 have hkeep : ∀ w', Only (fun _ => False) wb w' → w'.heap[w.heap.size]? = some (.cells #[.int .u8 k, .int .i64 n, .string ⟨s.toArray⟩, .slice ak lk ck, .slice av lv cv] 35 (0, 0)) := fun w' ho => by
  rw [ho.block _ (Array.getElem?_eq_some_iff.1 hbox).1 (fun h => h)]; exact hbox
 obtain ⟨c0, c1, c2, c3, c4⟩ := box_cells hbox; rw [hwb] at c0 c1 c2 c3 c4; have HKEEP := hid hkeep; have HOB := hid ob; have HV := hid hV; have HK := hid hK; have HWB := hid hwb; clear hkeep ob hK hV hbox hwb; have hvl0 : (0 : Int) ≤ (lv : Int) := by omega
 have hkl0 : (0 : Int) ≤ (lk : Int) := by omega
 by_cases hd24 : 24 ≤ d
 ·have b1 : decide ((24 : Int) ≤ (d : Int)) = true := by simp; omega
  rw [if_neg (by unfold ownF; omega)]
  go_enter Tryz.func17, Tryz.ntmps17
  go_wp2_with fail
  go_ret
  rw [← HWB.out]; exact ⟨rfl, HOB.out⟩
 ·have b1 : decide ((24 : Int) ≤ (d : Int)) = false := by simp; omega
  rcases hcase with hkc | hkc | hkc
  ·have e1 : ((k : Int) == 1) = false := by simp; omega
   have e2 : ((k : Int) == 2) = false := by simp; omega
   have e3 : ((k : Int) == 3) = false := by simp; omega
   have e4 : ((k : Int) == 4) = false := by simp; omega
   have e5 : ((k : Int) == 5) = false := by simp; omega
   have e6 : ((k : Int) == 6) = false := by simp; omega
   have e7 : ((k : Int) == 7) = false := by simp; omega
   have e8 : ((k : Int) == 8) = false := by simp; omega
   have f1 : ((k : Int) != 1) = true := by simp; omega
   have f3 : ((k : Int) != 3) = true := by simp; omega
   have f5 : ((k : Int) != 5) = true := by simp; omega
   have f6 : ((k : Int) != 6) = true := by simp; omega
   have g8 : decide ((8 : Int) < (k : Int)) = false := by simp; omega
   have g7 : decide ((7 : Int) ≤ (k : Int)) = false := by simp; omega
   have g9 : decide ((k : Int) ≤ 8) = true := by simp; omega
   by_cases hA : 200 < lv
   ·have l1 : decide ((200 : Int) < (lv : Int)) = true := by simp; omega
    rw [if_neg (fun h => by obtain ⟨h1, h2, h3, h4, h5, h6, h7, h8, h9⟩ := h; rw [← HLV.out] at h3; omega)]; have HKC := hid hkc; clear hkc
    go_enter Tryz.func17, Tryz.ntmps17
    go_wp2_with fail
    all_goals (go_ret; rw [← HWB.out]; exact ⟨rfl, HOB.out⟩)
   have l1 : decide ((200 : Int) < (lv : Int)) = false := by simp; omega
   by_cases hB : 200 < s.length
   ·have l2 : decide ((200 : Int) < (s.length : Int)) = true := by simp; omega
    rw [if_neg (fun h => by obtain ⟨h1, h2, h3, h4, h5, h6, h7, h8, h9⟩ := h; omega)]; have HKC := hid hkc; clear hkc
    go_enter Tryz.func17, Tryz.ntmps17
    go_wp2_with fail
    all_goals (go_ret; rw [← HWB.out]; exact ⟨rfl, HOB.out⟩)
   have l2 : decide ((200 : Int) < (s.length : Int)) = false := by simp; omega
   by_cases hn0 : n = 0
   ·subst hn0
    cases hse : s.isEmpty with
    | false =>
     have HSE := hid hse; rw [if_neg (fun h => by obtain ⟨h1, h2, h3, h4, h5, h6, h7, h8, h9⟩ := h; have := h6 (by intro e; rw [e] at hse; cases hse); omega)]; have HKC := hid hkc; clear hkc
     go_enter Tryz.func17, Tryz.ntmps17
     go_wp2_with fail
     all_goals (go_ret; rw [← HWB.out]; exact ⟨rfl, HOB.out⟩)
    | true =>
     obtain rfl : s = [] := List.isEmpty_iff.1 hse; clear hse
     by_cases hV0 : 0 < lv
     ·have HV0 := hid hV0; rw [if_neg (fun h => by obtain ⟨h1, h2, h3, h4, h5, h6, h7, h8, h9⟩ := h; have := h7 (by intro e; have := HLV.out; have := HV0.out; rw [e] at *; simp at *; omega); omega)]; have HKC := hid hkc; clear hkc
      go_enter Tryz.func17, Tryz.ntmps17
      go_wp2_with fail
      all_goals (go_ret; rw [← HWB.out]; exact ⟨rfl, HOB.out⟩)
     obtain rfl : lv = 0 := by omega
     clear hV0
     by_cases hK0 : 0 < lk
     ·have HK0 := hid hK0; rw [if_neg (fun h => by obtain ⟨h1, h2, h3, h4, h5, h6, h7, h8, h9⟩ := h; have h11 := h9 (by omega); have h10 := HLK.out; have h12 := HK0.out; rw [h11] at h10; simp at h10; omega)]; have HKC := hid hkc; clear hkc
      go_enter Tryz.func17, Tryz.ntmps17
      go_wp2_with fail
      all_goals (go_ret; rw [← HWB.out]; exact ⟨rfl, HOB.out⟩)
     obtain rfl : lk = 0 := by omega
     clear hK0; rw [if_pos (by refine ⟨by omega, by omega, by rw [← HLV.out]; omega, by first | omega | simp, by omega, by first | (intro _; omega) | (intro h; exact absurd rfl h), by first | (intro _; omega) | (intro h; exact absurd (List.eq_nil_of_length_eq_zero HLV.out.symm) h), by first | (intro h; omega) | (intro _; rw [← HLV.out, ← HLK.out]), by first | (intro h; omega) | (intro _; exact List.eq_nil_of_length_eq_zero HLK.out.symm)⟩), show decide (k = 6) = false from by simp; omega]; have HKC := hid hkc; clear hkc
     go_enter Tryz.func17, Tryz.ntmps17
     go_wp2_with fail
     rw [← HWB.out]
     go_loopw [7] (fun v wr => ∃ i : Nat, v = .int .i64 (i : Int) ∧ i ≤ 0 ∧ Hid (formVs false (ks.drop i) (vs.drop i) (d + 1) = formVs false ks vs (d + 1)) ∧ Hid (Only (fun _ => False) wb wr)) (fun v _ => 0 - (intOf v).toNat)
     case atStart => exact ⟨0, by simp, by omega, hid (by simp), hid (Only.refl _ _)⟩
     case round =>
      obtain ⟨i, rfl, hi, HF, HO⟩ := hrel; obtain ⟨c0, c1, c2, c3, c4⟩ := box_cells (HKEEP.out _ HO.out); obtain rfl : i = 0 := by omega
      clear hi
      go_wp2_with fail
      go_ret
      refine ⟨?_, HOB.out.trans HO.out⟩
      have h := HF.out; rw [show vs.drop 0 = [] from List.drop_eq_nil_of_le (by rw [← HLV.out]; omega)] at h; simp only [formVs] at h; rw [← h]; rfl
   have HN0 := hid hn0; have m0 : (n == 0) = false := by simpa using hn0
   have m1 : (n != 0) = true := by simpa using hn0
   clear hn0; rw [if_neg (fun h => by obtain ⟨h1, h2, h3, h4, h5, h6, h7, h8, h9⟩ := h; have := HN0.out; omega)]; have HKC := hid hkc; clear hkc
   go_enter Tryz.func17, Tryz.ntmps17
   go_wp2_with fail
   all_goals (go_ret; rw [← HWB.out]; exact ⟨rfl, HOB.out⟩)
  ·have e1 : ((k : Int) == 1) = true := by simp; omega
   have e2 : ((k : Int) == 2) = false := by simp; omega
   have e3 : ((k : Int) == 3) = false := by simp; omega
   have e4 : ((k : Int) == 4) = false := by simp; omega
   have e5 : ((k : Int) == 5) = false := by simp; omega
   have e6 : ((k : Int) == 6) = false := by simp; omega
   have e7 : ((k : Int) == 7) = false := by simp; omega
   have e8 : ((k : Int) == 8) = false := by simp; omega
   have f1 : ((k : Int) != 1) = false := by simp; omega
   have f3 : ((k : Int) != 3) = true := by simp; omega
   have f5 : ((k : Int) != 5) = true := by simp; omega
   have f6 : ((k : Int) != 6) = true := by simp; omega
   have g8 : decide ((8 : Int) < (k : Int)) = false := by simp; omega
   have g7 : decide ((7 : Int) ≤ (k : Int)) = false := by simp; omega
   have g9 : decide ((k : Int) ≤ 8) = true := by simp; omega
   by_cases hA : 200 < lv
   ·have l1 : decide ((200 : Int) < (lv : Int)) = true := by simp; omega
    rw [if_neg (fun h => by obtain ⟨h1, h2, h3, h4, h5, h6, h7, h8, h9⟩ := h; rw [← HLV.out] at h3; omega)]; have HKC := hid hkc; clear hkc
    go_enter Tryz.func17, Tryz.ntmps17
    go_wp2_with fail
    all_goals (go_ret; rw [← HWB.out]; exact ⟨rfl, HOB.out⟩)
   have l1 : decide ((200 : Int) < (lv : Int)) = false := by simp; omega
   by_cases hB : 200 < s.length
   ·have l2 : decide ((200 : Int) < (s.length : Int)) = true := by simp; omega
    rw [if_neg (fun h => by obtain ⟨h1, h2, h3, h4, h5, h6, h7, h8, h9⟩ := h; omega)]; have HKC := hid hkc; clear hkc
    go_enter Tryz.func17, Tryz.ntmps17
    go_wp2_with fail
    all_goals (go_ret; rw [← HWB.out]; exact ⟨rfl, HOB.out⟩)
   have l2 : decide ((200 : Int) < (s.length : Int)) = false := by simp; omega
   cases hse : s.isEmpty with
   | false =>
    have HSE := hid hse; rw [if_neg (fun h => by obtain ⟨h1, h2, h3, h4, h5, h6, h7, h8, h9⟩ := h; have := h6 (by intro e; rw [e] at hse; cases hse); omega)]; have HKC := hid hkc; clear hkc
    go_enter Tryz.func17, Tryz.ntmps17
    go_wp2_with fail
    all_goals (go_ret; rw [← HWB.out]; exact ⟨rfl, HOB.out⟩)
   | true =>
    obtain rfl : s = [] := List.isEmpty_iff.1 hse; clear hse
    by_cases hV0 : 0 < lv
    ·have HV0 := hid hV0; rw [if_neg (fun h => by obtain ⟨h1, h2, h3, h4, h5, h6, h7, h8, h9⟩ := h; have := h7 (by intro e; have := HLV.out; have := HV0.out; rw [e] at *; simp at *; omega); omega)]; have HKC := hid hkc; clear hkc
     go_enter Tryz.func17, Tryz.ntmps17
     go_wp2_with fail
     all_goals (go_ret; rw [← HWB.out]; exact ⟨rfl, HOB.out⟩)
    obtain rfl : lv = 0 := by omega
    clear hV0
    by_cases hK0 : 0 < lk
    ·have HK0 := hid hK0; rw [if_neg (fun h => by obtain ⟨h1, h2, h3, h4, h5, h6, h7, h8, h9⟩ := h; have h11 := h9 (by omega); have h10 := HLK.out; have h12 := HK0.out; rw [h11] at h10; simp at h10; omega)]; have HKC := hid hkc; clear hkc
     go_enter Tryz.func17, Tryz.ntmps17
     go_wp2_with fail
     all_goals (go_ret; rw [← HWB.out]; exact ⟨rfl, HOB.out⟩)
    obtain rfl : lk = 0 := by omega
    clear hK0; rw [if_pos (by refine ⟨by omega, by omega, by rw [← HLV.out]; omega, by first | omega | simp, by omega, by first | (intro _; omega) | (intro h; exact absurd rfl h), by first | (intro _; omega) | (intro h; exact absurd (List.eq_nil_of_length_eq_zero HLV.out.symm) h), by first | (intro h; omega) | (intro _; rw [← HLV.out, ← HLK.out]), by first | (intro h; omega) | (intro _; exact List.eq_nil_of_length_eq_zero HLK.out.symm)⟩), show decide (k = 6) = false from by simp; omega]; have HKC := hid hkc; clear hkc
    go_enter Tryz.func17, Tryz.ntmps17
    go_wp2_with fail
    rw [← HWB.out]
    go_loopw [7] (fun v wr => ∃ i : Nat, v = .int .i64 (i : Int) ∧ i ≤ 0 ∧ Hid (formVs false (ks.drop i) (vs.drop i) (d + 1) = formVs false ks vs (d + 1)) ∧ Hid (Only (fun _ => False) wb wr)) (fun v _ => 0 - (intOf v).toNat)
    case atStart => exact ⟨0, by simp, by omega, hid (by simp), hid (Only.refl _ _)⟩
    case round =>
     obtain ⟨i, rfl, hi, HF, HO⟩ := hrel; obtain ⟨c0, c1, c2, c3, c4⟩ := box_cells (HKEEP.out _ HO.out); obtain rfl : i = 0 := by omega
     clear hi
     go_wp2_with fail
     go_ret
     refine ⟨?_, HOB.out.trans HO.out⟩
     have h := HF.out; rw [show vs.drop 0 = [] from List.drop_eq_nil_of_le (by rw [← HLV.out]; omega)] at h; simp only [formVs] at h; rw [← h]; rfl
  ·have e1 : ((k : Int) == 1) = false := by simp; omega
   have e2 : ((k : Int) == 2) = false := by simp; omega
   have e3 : ((k : Int) == 3) = true := by simp; omega
   have e4 : ((k : Int) == 4) = false := by simp; omega
   have e5 : ((k : Int) == 5) = false := by simp; omega
   have e6 : ((k : Int) == 6) = false := by simp; omega
   have e7 : ((k : Int) == 7) = false := by simp; omega
   have e8 : ((k : Int) == 8) = false := by simp; omega
   have f1 : ((k : Int) != 1) = true := by simp; omega
   have f3 : ((k : Int) != 3) = false := by simp; omega
   have f5 : ((k : Int) != 5) = true := by simp; omega
   have f6 : ((k : Int) != 6) = true := by simp; omega
   have g8 : decide ((8 : Int) < (k : Int)) = false := by simp; omega
   have g7 : decide ((7 : Int) ≤ (k : Int)) = false := by simp; omega
   have g9 : decide ((k : Int) ≤ 8) = true := by simp; omega
   by_cases hA : 200 < lv
   ·have l1 : decide ((200 : Int) < (lv : Int)) = true := by simp; omega
    rw [if_neg (fun h => by obtain ⟨h1, h2, h3, h4, h5, h6, h7, h8, h9⟩ := h; rw [← HLV.out] at h3; omega)]; have HKC := hid hkc; clear hkc
    go_enter Tryz.func17, Tryz.ntmps17
    go_wp2_with fail
    all_goals (go_ret; rw [← HWB.out]; exact ⟨rfl, HOB.out⟩)
   have l1 : decide ((200 : Int) < (lv : Int)) = false := by simp; omega
   by_cases hB : 200 < s.length
   ·have l2 : decide ((200 : Int) < (s.length : Int)) = true := by simp; omega
    rw [if_neg (fun h => by obtain ⟨h1, h2, h3, h4, h5, h6, h7, h8, h9⟩ := h; omega)]; have HKC := hid hkc; clear hkc
    go_enter Tryz.func17, Tryz.ntmps17
    go_wp2_with fail
    all_goals (go_ret; rw [← HWB.out]; exact ⟨rfl, HOB.out⟩)
   have l2 : decide ((200 : Int) < (s.length : Int)) = false := by simp; omega
   by_cases hn0 : n = 0
   ·subst hn0
    cases hse : s.isEmpty with
    | false =>
     have HSE := hid hse; rw [if_neg (fun h => by obtain ⟨h1, h2, h3, h4, h5, h6, h7, h8, h9⟩ := h; have := h6 (by intro e; rw [e] at hse; cases hse); omega)]; have HKC := hid hkc; clear hkc
     go_enter Tryz.func17, Tryz.ntmps17
     go_wp2_with fail
     all_goals (go_ret; rw [← HWB.out]; exact ⟨rfl, HOB.out⟩)
    | true =>
     obtain rfl : s = [] := List.isEmpty_iff.1 hse; clear hse
     by_cases hV0 : 0 < lv
     ·have HV0 := hid hV0; rw [if_neg (fun h => by obtain ⟨h1, h2, h3, h4, h5, h6, h7, h8, h9⟩ := h; have := h7 (by intro e; have := HLV.out; have := HV0.out; rw [e] at *; simp at *; omega); omega)]; have HKC := hid hkc; clear hkc
      go_enter Tryz.func17, Tryz.ntmps17
      go_wp2_with fail
      all_goals (go_ret; rw [← HWB.out]; exact ⟨rfl, HOB.out⟩)
     obtain rfl : lv = 0 := by omega
     clear hV0
     by_cases hK0 : 0 < lk
     ·have HK0 := hid hK0; rw [if_neg (fun h => by obtain ⟨h1, h2, h3, h4, h5, h6, h7, h8, h9⟩ := h; have h11 := h9 (by omega); have h10 := HLK.out; have h12 := HK0.out; rw [h11] at h10; simp at h10; omega)]; have HKC := hid hkc; clear hkc
      go_enter Tryz.func17, Tryz.ntmps17
      go_wp2_with fail
      all_goals (go_ret; rw [← HWB.out]; exact ⟨rfl, HOB.out⟩)
     obtain rfl : lk = 0 := by omega
     clear hK0; rw [if_pos (by refine ⟨by omega, by omega, by rw [← HLV.out]; omega, by first | omega | simp, by omega, by first | (intro _; omega) | (intro h; exact absurd rfl h), by first | (intro _; omega) | (intro h; exact absurd (List.eq_nil_of_length_eq_zero HLV.out.symm) h), by first | (intro h; omega) | (intro _; rw [← HLV.out, ← HLK.out]), by first | (intro h; omega) | (intro _; exact List.eq_nil_of_length_eq_zero HLK.out.symm)⟩), show decide (k = 6) = false from by simp; omega]; have HKC := hid hkc; clear hkc
     go_enter Tryz.func17, Tryz.ntmps17
     go_wp2_with fail
     rw [← HWB.out]
     go_loopw [7] (fun v wr => ∃ i : Nat, v = .int .i64 (i : Int) ∧ i ≤ 0 ∧ Hid (formVs false (ks.drop i) (vs.drop i) (d + 1) = formVs false ks vs (d + 1)) ∧ Hid (Only (fun _ => False) wb wr)) (fun v _ => 0 - (intOf v).toNat)
     case atStart => exact ⟨0, by simp, by omega, hid (by simp), hid (Only.refl _ _)⟩
     case round =>
      obtain ⟨i, rfl, hi, HF, HO⟩ := hrel; obtain ⟨c0, c1, c2, c3, c4⟩ := box_cells (HKEEP.out _ HO.out); obtain rfl : i = 0 := by omega
      clear hi
      go_wp2_with fail
      go_ret
      refine ⟨?_, HOB.out.trans HO.out⟩
      have h := HF.out; rw [show vs.drop 0 = [] from List.drop_eq_nil_of_le (by rw [← HLV.out]; omega)] at h; simp only [formVs] at h; rw [← h]; rfl
   by_cases hn1 : n = 1
   ·subst hn1
    cases hse : s.isEmpty with
    | false =>
     have HSE := hid hse; rw [if_neg (fun h => by obtain ⟨h1, h2, h3, h4, h5, h6, h7, h8, h9⟩ := h; have := h6 (by intro e; rw [e] at hse; cases hse); omega)]; have HKC := hid hkc; clear hkc
     go_enter Tryz.func17, Tryz.ntmps17
     go_wp2_with fail
     all_goals (go_ret; rw [← HWB.out]; exact ⟨rfl, HOB.out⟩)
    | true =>
     obtain rfl : s = [] := List.isEmpty_iff.1 hse; clear hse
     by_cases hV0 : 0 < lv
     ·have HV0 := hid hV0; rw [if_neg (fun h => by obtain ⟨h1, h2, h3, h4, h5, h6, h7, h8, h9⟩ := h; have := h7 (by intro e; have := HLV.out; have := HV0.out; rw [e] at *; simp at *; omega); omega)]; have HKC := hid hkc; clear hkc
      go_enter Tryz.func17, Tryz.ntmps17
      go_wp2_with fail
      all_goals (go_ret; rw [← HWB.out]; exact ⟨rfl, HOB.out⟩)
     obtain rfl : lv = 0 := by omega
     clear hV0
     by_cases hK0 : 0 < lk
     ·have HK0 := hid hK0; rw [if_neg (fun h => by obtain ⟨h1, h2, h3, h4, h5, h6, h7, h8, h9⟩ := h; have h11 := h9 (by omega); have h10 := HLK.out; have h12 := HK0.out; rw [h11] at h10; simp at h10; omega)]; have HKC := hid hkc; clear hkc
      go_enter Tryz.func17, Tryz.ntmps17
      go_wp2_with fail
      all_goals (go_ret; rw [← HWB.out]; exact ⟨rfl, HOB.out⟩)
     obtain rfl : lk = 0 := by omega
     clear hK0; rw [if_pos (by refine ⟨by omega, by omega, by rw [← HLV.out]; omega, by first | omega | simp, by omega, by first | (intro _; omega) | (intro h; exact absurd rfl h), by first | (intro _; omega) | (intro h; exact absurd (List.eq_nil_of_length_eq_zero HLV.out.symm) h), by first | (intro h; omega) | (intro _; rw [← HLV.out, ← HLK.out]), by first | (intro h; omega) | (intro _; exact List.eq_nil_of_length_eq_zero HLK.out.symm)⟩), show decide (k = 6) = false from by simp; omega]; have HKC := hid hkc; clear hkc
     go_enter Tryz.func17, Tryz.ntmps17
     go_wp2_with fail
     rw [← HWB.out]
     go_loopw [7] (fun v wr => ∃ i : Nat, v = .int .i64 (i : Int) ∧ i ≤ 0 ∧ Hid (formVs false (ks.drop i) (vs.drop i) (d + 1) = formVs false ks vs (d + 1)) ∧ Hid (Only (fun _ => False) wb wr)) (fun v _ => 0 - (intOf v).toNat)
     case atStart => exact ⟨0, by simp, by omega, hid (by simp), hid (Only.refl _ _)⟩
     case round =>
      obtain ⟨i, rfl, hi, HF, HO⟩ := hrel; obtain ⟨c0, c1, c2, c3, c4⟩ := box_cells (HKEEP.out _ HO.out); obtain rfl : i = 0 := by omega
      clear hi
      go_wp2_with fail
      go_ret
      refine ⟨?_, HOB.out.trans HO.out⟩
      have h := HF.out; rw [show vs.drop 0 = [] from List.drop_eq_nil_of_le (by rw [← HLV.out]; omega)] at h; simp only [formVs] at h; rw [← h]; rfl
   have HN0 := hid hn0; have HN1 := hid hn1; have m0 : (n == 0) = false := by simpa using hn0
   have m1 : (n != 0) = true := by simpa using hn0
   have m2 : (n == 1) = false := by simpa using hn1
   have m3 : (n != 1) = true := by simpa using hn1
   clear hn0 hn1; rw [if_neg (fun h => by obtain ⟨h1, h2, h3, h4, h5, h6, h7, h8, h9⟩ := h; have := HN0.out; have := HN1.out; omega)]; have HKC := hid hkc; clear hkc
   go_enter Tryz.func17, Tryz.ntmps17
   go_wp2_with fail
   all_goals (go_ret; rw [← HWB.out]; exact ⟨rfl, HOB.out⟩)
end Go.Proofs.YtnkpoddbbdmipaaGreatDoor
