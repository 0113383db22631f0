/- . -/
import Derived.Test.YtnkpoddbbdmipaaGreatDoorTApRnum
namespace Go.Proofs.YtnkpoddbbdmipaaGreatDoor
open Go Go.RowKit
open Go.Lib (hid)
set_option linter.unusedVariables false
set_option linter.unusedSimpArgs false
theorem str_snoc (acc : List UInt8) (x : UInt8) : (⟨acc.toArray⟩ : ByteArray) ++ ⟨#[x]⟩ = ⟨(acc ++ [x]).toArray⟩ := by
 apply ByteArray.ext; simp
theorem one_at (s : ByteArray) (k : Nat) (h : k < s.size) : s.extract k (k + 1) = ⟨#[s[k]]⟩ := by
 have e := ba_eq (t := s.extract k (k + 1)) (l := [s[k]]) (by rw [extract_list, drop_get s k h, Nat.add_sub_cancel_left]; rfl); exact e
set_option maxRecDepth 100000 in
set_option maxHeartbeats 40000000 in
theorem rtext_any (s : ByteArray) (i : Nat) (w : World) (hs : s.size ≤ 1000000) (hi : i < s.size) :
  Calls Tryz.prog 92 #[.string s, .int .i64 i] w fun e w' => e = .returned (oneR i (txtP [] 1 (s.data.toList.drop (i + 1)))) ∧ Only (fun _ => False) w w' := by
 obtain ⟨P, hP⟩ : ∃ P, txtP [] 1 (s.data.toList.drop (i + 1)) = P := ⟨_, rfl⟩; rw [hP]; obtain ⟨W, hW⟩ : ∃ W, W = w.alloc (.cells #[.int .u8 0, .string ⟨#[]⟩, .int .i64 0, .int .i64 0] 109) := ⟨_, rfl⟩; have hbx : W.heap[w.heap.size]? = some (.cells [.int .u8 0, .string ⟨#[]⟩, .int .i64 0, .int .i64 0].toArray 109 (0, 0)) := by rw [hW]; exact heap_new _ _
 have hOw : Only (fun _ => False) w W := by rw [hW]; exact (Only.refl _ w).alloc _
 obtain ⟨b0, hb0⟩ : ∃ b0, w.heap.size = b0 := ⟨_, rfl⟩; rw [hb0] at hbx; have HBX := hid hbx; have HOW := hid hOw; have HB0 := hid hb0; have HW := hid hW; have HP := hid hP; clear hbx hOw hP
 go_enter Tryz.func92, Tryz.ntmps92
 go_upto_region 2 with (fail)
 rw [← HW.out]
 try rw [hb0]
 clear hb0 hW HW
 go_wp2_with fail
 go_loopw [8, 9] (fun x y wr => ∃ k acc, x = .string ⟨acc.toArray⟩ ∧ y = .int .i64 (k : Nat) ∧ i + 1 ≤ k ∧ k ≤ s.size ∧ acc.length ≤ k ∧ wr = W ∧ Hid (txtP acc (k - i) (s.data.toList.drop k) = P)) (fun _ y _ => s.size - (intOf y).toNat)
 case atStart => exact ⟨i + 1, [], by simp, by simp, by omega, by omega, by simp, rfl, hid (by rw [← HP.out, show i + 1 - i = 1 from by omega])⟩
 case round =>
  obtain ⟨k, acc, rfl, rfl, hk1, hk, hacc, rfl, TP⟩ := hrel
  by_cases hlt : k < s.size
  ·have t1 : decide ((k : Int) < (s.size : Int)) = true := decide_eq_true (by omega); have tp := TP.out; rw [drop_get s k hlt] at tp; have TC := hid tp; clear tp TP
   by_cases c1 : (s[k].toNat : Int) = 34
   ·have t2 : decide ((s[k].toNat : Int) = 34) = true := decide_eq_true c1; have hal : acc.length ≤ 1000000 := by omega
    by_cases c2 : 200 < acc.length
    ·have t3 : decide ((acc.length : Int) > 200) = true := decide_eq_true (by omega)
     go_wp2_with ((refine wpList_store_box (o := ⟨none, _, _, _, _, _⟩) rfl 109 (.tmp 4) (.tmp 31) (by rfl) b0 [.int .u8 0, .string ⟨#[]⟩, .int .i64 0, .int .i64 0] [.int .u8 0, .string ⟨#[]⟩, .int .i64 0, .int .i64 0] (by rfl) (by rfl) HBX.out (by rfl) (by kernel_rfl) (by intro u hu; simp at hu; rcases hu with rfl | rfl | rfl | rfl <;> rfl) ?_; intro w9 k1 k2))
     obtain ⟨z0, z1, z2, z3⟩ := box4 k1; have hoW : Only (fun _ => False) w w9 := HOW.out.trans' k2 (fun q hq e => by have := HB0.out; omega); have HOZ := hid hoW; clear hoW k2
     go_wp2_with fail
     have e : P = .bad 0 2 := by rw [← TC.out, txtP_q _ _ _ (by omega), if_pos c2]
     exact bodyPost_ret (v := oneR i P) (by rw [e]; simp [oneR, tokV, results, Tryz.results92, go_sem, z0, z1, z2, z3]) rfl ⟨rfl, HOZ.out⟩
    ·have t3 : decide ((acc.length : Int) > 200) = false := decide_eq_false (by omega)
     go_wp2_with ((refine wpList_store_box (o := ⟨none, _, _, _, _, _⟩) rfl 109 (.tmp 4) (.tmp 34) (by rfl) b0 [.int .u8 0, .string ⟨#[]⟩, .int .i64 0, .int .i64 0] [.int .u8 3, .string ⟨acc.toArray⟩, .int .i64 0, .int .i64 0] (by rfl) (by rfl) HBX.out (by rfl) (by kernel_rfl) (by intro u hu; simp at hu; rcases hu with rfl | rfl | rfl | rfl <;> rfl) ?_; intro w9 k1 k2))
     obtain ⟨z0, z1, z2, z3⟩ := box4 k1; have hoW : Only (fun _ => False) w w9 := HOW.out.trans' k2 (fun q hq e => by have := HB0.out; omega); have HOZ := hid hoW; clear hoW k2
     go_wp2_with fail
     have e : P = .ok 3 acc 0 (k - i + 1) := by rw [← TC.out, txtP_q _ _ _ (by omega), if_neg c2]
     exact bodyPost_ret (v := oneR i P) (by rw [e]; simp [oneR, tokV, results, Tryz.results92, go_sem, z0, z1, z2, z3]; omega) rfl ⟨rfl, HOZ.out⟩
   ·have t2 : decide ((s[k].toNat : Int) = 34) = false := decide_eq_false c1
    by_cases c2 : (s[k].toNat : Int) = 10
    ·have t3 : decide ((s[k].toNat : Int) = 10) = true := decide_eq_true c2
     go_wp2_with ((refine wpList_store_box (o := ⟨none, _, _, _, _, _⟩) rfl 109 (.tmp 4) (.tmp 39) (by rfl) b0 [.int .u8 0, .string ⟨#[]⟩, .int .i64 0, .int .i64 0] [.int .u8 0, .string ⟨#[]⟩, .int .i64 0, .int .i64 0] (by rfl) (by rfl) HBX.out (by rfl) (by kernel_rfl) (by intro u hu; simp at hu; rcases hu with rfl | rfl | rfl | rfl <;> rfl) ?_; intro w9 k1 k2))
     obtain ⟨z0, z1, z2, z3⟩ := box4 k1; have hoW : Only (fun _ => False) w w9 := HOW.out.trans' k2 (fun q hq e => by have := HB0.out; omega); have HOZ := hid hoW; clear hoW k2
     go_wp2_with fail
     have e : P = .bad (k - i) 4 := by rw [← TC.out, txtP_n _ _ _ (by omega)]
     exact bodyPost_ret (v := oneR i P) (by rw [e]; simp [oneR, tokV, results, Tryz.results92, go_sem, z0, z1, z2, z3]; omega) rfl ⟨rfl, HOZ.out⟩
    ·have t3 : decide ((s[k].toNat : Int) = 10) = false := decide_eq_false c2
     by_cases c3 : (s[k].toNat : Int) = 92
     ·have t4 : decide ((s[k].toNat : Int) = 92) = true := decide_eq_true c3
      by_cases hl2 : k + 1 < s.size
      ·have t5 : decide ((k : Int) + 1 = (s.size : Int)) = false := decide_eq_false (by omega); have tc := TC.out; rw [drop_get s (k + 1) hl2, txtP_e _ _ _ _ (by omega)] at tc; have hone := one_at s (k + 1) hl2; have HONE := hid hone; clear hone; obtain ⟨g, hg⟩ : ∃ g, s[k + 1] = g := ⟨_, rfl⟩; rw [hg] at tc HONE; have HG := hid hg; have he : escX g = (if g.toNat = 34 ∨ g.toNat = 92 ∨ g.toNat = 47 then some g else if g.toNat = 110 then some 10 else if g.toNat = 116 then some 9 else none) := rfl; rw [he] at tc; clear he; have TG := hid tc; clear tc hg
       by_cases d0 : (s[k + 1].toNat : Int) = 110
       ·have u0 : decide ((s[k + 1].toNat : Int) = 110) = true := decide_eq_true d0; have tc := TG.out; have hgg : (g.toNat : Int) = (s[k + 1].toNat : Int) := by rw [HG.out]
        rw [if_neg (by omega), if_pos (by omega)] at tc; have TD := hid tc; clear tc TG hgg
        go_wp2_with fail
        go_roundw
        case rel => exact ⟨k + 2, acc ++ [10], by rw [str_snoc], by simp; omega, by omega, by omega, by rw [List.length_append, List.length_singleton]; omega, by first | rfl | trivial, hid (by rw [← TD.out]; congr 1; omega)⟩
        case measure => simp [intOf]; omega
       have u0 : decide ((s[k + 1].toNat : Int) = 110) = false := decide_eq_false d0
       by_cases d1 : (s[k + 1].toNat : Int) = 116
       ·have u1 : decide ((s[k + 1].toNat : Int) = 116) = true := decide_eq_true d1; have tc := TG.out; have hgg : (g.toNat : Int) = (s[k + 1].toNat : Int) := by rw [HG.out]
        rw [if_neg (by omega), if_neg (by omega), if_pos (by omega)] at tc; have TD := hid tc; clear tc TG hgg
        go_wp2_with fail
        go_roundw
        case rel => exact ⟨k + 2, acc ++ [9], by rw [str_snoc], by simp; omega, by omega, by omega, by rw [List.length_append, List.length_singleton]; omega, by first | rfl | trivial, hid (by rw [← TD.out]; congr 1; omega)⟩
        case measure => simp [intOf]; omega
       have u1 : decide ((s[k + 1].toNat : Int) = 116) = false := decide_eq_false d1
       by_cases d2 : (s[k + 1].toNat : Int) = 34
       ·have u2 : decide ((s[k + 1].toNat : Int) = 34) = true := decide_eq_true d2; have tc := TG.out; have hgg : (g.toNat : Int) = (s[k + 1].toNat : Int) := by rw [HG.out]
        rw [if_pos (by omega)] at tc; have TD := hid tc; clear tc TG hgg
        go_wp2_with fail
        go_roundw
        case rel => exact ⟨k + 2, acc ++ [g], by rw [HONE.out, str_snoc], by simp; omega, by omega, by omega, by rw [List.length_append, List.length_singleton]; omega, by first | rfl | trivial, hid (by rw [← TD.out]; congr 1; omega)⟩
        case measure => simp [intOf]; omega
       have u2 : decide ((s[k + 1].toNat : Int) = 34) = false := decide_eq_false d2
       by_cases d3 : (s[k + 1].toNat : Int) = 47
       ·have u3 : decide ((s[k + 1].toNat : Int) = 47) = true := decide_eq_true d3; have tc := TG.out; have hgg : (g.toNat : Int) = (s[k + 1].toNat : Int) := by rw [HG.out]
        rw [if_pos (by omega)] at tc; have TD := hid tc; clear tc TG hgg
        go_wp2_with fail
        go_roundw
        case rel => exact ⟨k + 2, acc ++ [g], by rw [HONE.out, str_snoc], by simp; omega, by omega, by omega, by rw [List.length_append, List.length_singleton]; omega, by first | rfl | trivial, hid (by rw [← TD.out]; congr 1; omega)⟩
        case measure => simp [intOf]; omega
       have u3 : decide ((s[k + 1].toNat : Int) = 47) = false := decide_eq_false d3
       by_cases d4 : (s[k + 1].toNat : Int) = 92
       ·have u4 : decide ((s[k + 1].toNat : Int) = 92) = true := decide_eq_true d4; have tc := TG.out; have hgg : (g.toNat : Int) = (s[k + 1].toNat : Int) := by rw [HG.out]
        rw [if_pos (by omega)] at tc; have TD := hid tc; clear tc TG hgg
        go_wp2_with fail
        go_roundw
        case rel => exact ⟨k + 2, acc ++ [g], by rw [HONE.out, str_snoc], by simp; omega, by omega, by omega, by rw [List.length_append, List.length_singleton]; omega, by first | rfl | trivial, hid (by rw [← TD.out]; congr 1; omega)⟩
        case measure => simp [intOf]; omega
       have u4 : decide ((s[k + 1].toNat : Int) = 92) = false := decide_eq_false d4; have tc := TG.out; have hgg : (g.toNat : Int) = (s[k + 1].toNat : Int) := by rw [HG.out]
       rw [if_neg (by omega), if_neg (by omega), if_neg (by omega)] at tc; have TD := hid tc; clear tc TG hgg
       go_wp2_with ((refine wpList_store_box (o := ⟨none, _, _, _, _, _⟩) rfl 109 (.tmp 4) (.tmp 54) (by rfl) b0 [.int .u8 0, .string ⟨#[]⟩, .int .i64 0, .int .i64 0] [.int .u8 0, .string ⟨#[]⟩, .int .i64 0, .int .i64 0] (by rfl) (by rfl) HBX.out (by rfl) (by kernel_rfl) (by intro u hu; simp at hu; rcases hu with rfl | rfl | rfl | rfl <;> rfl) ?_; intro w9 k1 k2))
       obtain ⟨z0, z1, z2, z3⟩ := box4 k1; have hoW : Only (fun _ => False) w w9 := HOW.out.trans' k2 (fun q hq e => by have := HB0.out; omega); have HOZ := hid hoW; clear hoW k2
       go_wp2_with fail
       have e : P = .bad (k - i + 1) 4 := TD.out.symm; exact bodyPost_ret (v := oneR i P) (by rw [e]; simp [oneR, tokV, results, Tryz.results92, go_sem, z0, z1, z2, z3]; try omega) rfl ⟨rfl, HOZ.out⟩
      ·have t5 : decide ((k : Int) + 1 = (s.size : Int)) = true := decide_eq_true (by omega)
       go_wp2_with ((refine wpList_store_box (o := ⟨none, _, _, _, _, _⟩) rfl 109 (.tmp 4) (.tmp 49) (by rfl) b0 [.int .u8 0, .string ⟨#[]⟩, .int .i64 0, .int .i64 0] [.int .u8 0, .string ⟨#[]⟩, .int .i64 0, .int .i64 0] (by rfl) (by rfl) HBX.out (by rfl) (by kernel_rfl) (by intro u hu; simp at hu; rcases hu with rfl | rfl | rfl | rfl <;> rfl) ?_; intro w9 k1 k2))
       obtain ⟨z0, z1, z2, z3⟩ := box4 k1; have hoW : Only (fun _ => False) w w9 := HOW.out.trans' k2 (fun q hq e => by have := HB0.out; omega); have HOZ := hid hoW; clear hoW k2
       go_wp2_with fail
       have e : P = .bad (k - i + 1) 4 := by rw [← TC.out, drop_all s (k + 1) (by omega), txtP_e0 _ _ (by omega)]
       exact bodyPost_ret (v := oneR i P) (by rw [e]; simp [oneR, tokV, results, Tryz.results92, go_sem, z0, z1, z2, z3]; try omega) rfl ⟨rfl, HOZ.out⟩
     ·have t4 : decide ((s[k].toNat : Int) = 92) = false := decide_eq_false c3; have tc := TC.out; rw [txtP_o _ _ _ (by omega) (by omega) (by omega)] at tc; have TD := hid tc; clear tc TC; have hone := one_at s k hlt; have HONE := hid hone; clear hone
      go_wp2_with fail
      go_roundw
      case rel => exact ⟨k + 1, acc ++ [s[k]], by rw [HONE.out, str_snoc], by simp, by omega, by omega, by rw [List.length_append, List.length_singleton]; omega, by first | rfl | trivial, hid (by rw [← TD.out]; congr 1; omega)⟩
      case measure => simp [intOf]; omega
  ·have t1 : decide ((k : Int) < (s.size : Int)) = false := decide_eq_false (by omega)
   go_wp2_with ((refine wpList_store_box (o := ⟨none, _, _, _, _, _⟩) rfl 109 (.tmp 4) (.tmp 77) (by rfl) b0 [.int .u8 0, .string ⟨#[]⟩, .int .i64 0, .int .i64 0] [.int .u8 0, .string ⟨#[]⟩, .int .i64 0, .int .i64 0] (by rfl) (by rfl) HBX.out (by rfl) (by kernel_rfl) (by intro u hu; simp at hu; rcases hu with rfl | rfl | rfl | rfl <;> rfl) ?_; intro w9 k1 k2))
   obtain ⟨z0, z1, z2, z3⟩ := box4 k1; have hoW : Only (fun _ => False) w w9 := HOW.out.trans' k2 (fun q hq e => by have := HB0.out; omega); have HOZ := hid hoW; clear hoW k2
   go_wp2_with fail
   have e : P = .bad (k - i) 4 := by rw [← TP.out, drop_all s k (by omega), txtP_nil]
   exact bodyPost_ret (v := oneR i P) (by rw [e]; simp [oneR, tokV, results, Tryz.results92, go_sem, z0, z1, z2, z3]; try omega) rfl ⟨rfl, HOZ.out⟩
end Go.Proofs.YtnkpoddbbdmipaaGreatDoor
