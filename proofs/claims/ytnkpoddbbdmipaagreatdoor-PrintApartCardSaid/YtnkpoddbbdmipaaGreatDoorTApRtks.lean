/- . -/
import Derived.Test.YtnkpoddbbdmipaaGreatDoorTApRtxt
import Derived.Test.YtnkpoddbbdmipaaGreatDoorTApTrw
namespace Go.Proofs.YtnkpoddbbdmipaaGreatDoor
open Go Go.RowKit
open Go.Lib (hid)
set_option linter.unusedVariables false
set_option linter.unusedSimpArgs false
theorem signB_cases (u : UInt8) : signB u = (decide (u.toNat = 33) || decide (u.toNat = 36) || decide (u.toNat = 40) || decide (u.toNat = 41) || decide (u.toNat = 58) || decide (u.toNat = 61) || decide (u.toNat = 64) || decide (u.toNat = 91) || decide (u.toNat = 93) || decide (u.toNat = 123) || decide (u.toNat = 124) || decide (u.toNat = 125) || decide (u.toNat = 38)) := by
 revert u; refine u8_all ?_; decide +kernel
theorem signB_or (u : UInt8) : ((u.toNat : Int) = 33 ∧ signB u = true) ∨ ((u.toNat : Int) = 36 ∧ signB u = true) ∨ ((u.toNat : Int) = 40 ∧ signB u = true) ∨ ((u.toNat : Int) = 41 ∧ signB u = true) ∨ ((u.toNat : Int) = 58 ∧ signB u = true) ∨ ((u.toNat : Int) = 61 ∧ signB u = true) ∨ ((u.toNat : Int) = 64 ∧ signB u = true) ∨ ((u.toNat : Int) = 91 ∧ signB u = true) ∨ ((u.toNat : Int) = 93 ∧ signB u = true) ∨ ((u.toNat : Int) = 123 ∧ signB u = true) ∨ ((u.toNat : Int) = 124 ∧ signB u = true) ∨ ((u.toNat : Int) = 125 ∧ signB u = true) ∨ ((u.toNat : Int) = 38 ∧ signB u = true) ∨ (¬ (u.toNat : Int) = 33 ∧ ¬ (u.toNat : Int) = 36 ∧ ¬ (u.toNat : Int) = 40 ∧ ¬ (u.toNat : Int) = 41 ∧ ¬ (u.toNat : Int) = 58 ∧ ¬ (u.toNat : Int) = 61 ∧ ¬ (u.toNat : Int) = 64 ∧ ¬ (u.toNat : Int) = 91 ∧ ¬ (u.toNat : Int) = 93 ∧ ¬ (u.toNat : Int) = 123 ∧ ¬ (u.toNat : Int) = 124 ∧ ¬ (u.toNat : Int) = 125 ∧ ¬ (u.toNat : Int) = 38 ∧ signB u = false) := by
 revert u; refine u8_all ?_; decide +kernel
theorem dots_at (s : ByteArray) (i : Nat) (hi : i < s.size) : dotsB (s.data.toList.drop i) = decide (s[i].toNat = 46 ∧ ∃ h : i + 2 < s.size, s[i + 1].toNat = 46 ∧ s[i + 2].toNat = 46) := by
 unfold dotsB; rw [Bool.eq_iff_iff]; simp only [decide_eq_true_eq]; rw [drop_get s i hi]
 by_cases h1 : i + 1 < s.size
 ·rw [drop_get s (i + 1) h1]
  by_cases h2 : i + 2 < s.size
  ·rw [drop_get s (i + 2) h2]; simp [h2]
  ·rw [drop_all s (i + 1 + 1) (by omega)]; simp [h2]
 ·rw [drop_all s (i + 1) (by omega)]; have : ¬ i + 2 < s.size := by omega
  simp [this]
theorem oneR_form (i : Nat) (P : One) : ∃ y0 y1 y2 y3 y4 y5 y6, oneR i P = .tuple #[.agg #[y0, y1, y2, y3], y4, y5, y6] ∧ ∀ u ∈ [y0, y1, y2, y3], u.oneCell' = true := by
 cases P with
 | ok k t n len => exact ⟨_, _, _, _, _, _, _, rfl, by intro u hu; simp at hu; rcases hu with rfl | rfl | rfl | rfl <;> rfl⟩
 | bad off e => exact ⟨_, _, _, _, _, _, _, rfl, by intro u hu; simp at hu; rcases hu with rfl | rfl | rfl | rfl <;> rfl⟩
set_option maxRecDepth 100000 in
set_option maxHeartbeats 40000000 in
theorem rone_any (s : ByteArray) (i : Nat) (w : World) (hs : s.size ≤ 1000000) (hi : i < s.size) :
  Calls Tryz.prog 69 #[.string s, .int .i64 i] w fun e w' => e = .returned (oneR i (oneP (s.data.toList.drop i))) ∧ Only (fun _ => False) w w' := by
 obtain ⟨P, hP⟩ : ∃ P, oneP (s.data.toList.drop i) = P := ⟨_, rfl⟩; rw [hP]; have hL := drop_get s i hi; have HLL := hid hL; clear hL; obtain ⟨W, hW⟩ : ∃ W, W = w.alloc (.cells #[.int .u8 0, .string ⟨#[]⟩, .int .i64 0, .int .i64 0] 109) := ⟨_, rfl⟩; have hbx : W.heap[w.heap.size]? = some (.cells [.int .u8 0, .string ⟨#[]⟩, .int .i64 0, .int .i64 0].toArray 109 (0, 0)) := by rw [hW]; exact heap_new _ _
 have hOw : Only (fun _ => False) w W := by rw [hW]; exact (Only.refl _ w).alloc _
 obtain ⟨b0, hb0⟩ : ∃ b0, w.heap.size = b0 := ⟨_, rfl⟩; rw [hb0] at hbx; have HBX := hid hbx; have HOW := hid hOw; have HB0 := hid hb0; have HW := hid hW; have HP := hid hP; clear hbx hOw hP
 go_enter Tryz.func69, Tryz.ntmps69
 go_upto_region 1 with (fail)
 rw [← HW.out]
 try rw [hb0]
 clear hb0 hW HW; have L := hid (rletter_any s[i] W)
 cases hc : letB s[i]
 rotate_left
 ·rw [hc] at L; obtain ⟨r, hr⟩ : ∃ r, runL ldB (s.data.toList.drop i) = r := ⟨_, rfl⟩; have hrl : i + r ≤ s.size := by rcases runL_at hr with h | h <;> omega
  have HR := hid hr; have HC := hid hc; clear hr hc
  go_wp2_with fail
  refine L.out.mono ?_
  rintro e w1 ⟨rfl, rfl⟩
  go_upto_block 1 with (fail)
  clear L
  go_cut [9] from 10 to 34 (fun v w' => v = .int .i64 ((i : Int) + (r : Int)) ∧ w' = w1)
  case first =>
   go_wp2_with fail
   go_loopw [9] (fun x wr => ∃ k : Nat, x = .int .i64 (k : Int) ∧ i ≤ k ∧ k ≤ i + r ∧ wr = w1) (fun x _ => s.size - (intOf x).toNat)
   case atStart => exact ⟨i, rfl, by omega, by omega, rfl⟩
   case round =>
    obtain ⟨k, rfl, hk1, hk2, rfl⟩ := hrel
    by_cases hks : k < s.size
    ·have t1 : decide ((k : Int) < (s.size : Int)) = true := decide_eq_true (by omega); have LL := hid (rletter_any s[k] wr); have DD := hid (rdigit_any s[k] wr); have hld : k < i + r → (letB s[k] || digB s[k]) = true := fun h => run_in HR.out k hk1 h hks
     have hno : k = i + r → (letB s[k] || digB s[k]) = false := fun h => by subst h; exact run_out HR.out hks
     have HLD := hid hld; have HNO := hid hno; clear hld hno; obtain ⟨b1, hb1⟩ : ∃ b1, letB s[k] = b1 := ⟨_, rfl⟩; obtain ⟨b2, hb2⟩ : ∃ b2, digB s[k] = b2 := ⟨_, rfl⟩; rw [hb1] at LL HLD HNO; rw [hb2] at DD HLD HNO; clear hb1 hb2
     cases b1
     ·cases b2
      ·have hke : k = i + r := by
        have := HLD.out
        by_cases h : k < i + r
        ·have := this h; simp at this
        ·omega
       have HKE := hid hke; clear hke
       go_wp2_with fail
       refine LL.out.mono ?_
       rintro e w2 ⟨rfl, rfl⟩
       go_wp2_with fail
       refine DD.out.mono ?_
       rintro e w3 ⟨rfl, rfl⟩
       go_wp2_with fail
       go_meet
       case rel => exact ⟨by rw [HKE.out]; simp, by first | rfl | trivial⟩
      ·have hlt : k < i + r := by
        have := HNO.out
        by_cases h : k = i + r
        ·have := this h; simp at this
        ·omega
       go_wp2_with fail
       refine LL.out.mono ?_
       rintro e w2 ⟨rfl, rfl⟩
       go_wp2_with fail
       refine DD.out.mono ?_
       rintro e w3 ⟨rfl, rfl⟩
       go_wp2_with fail
       go_roundw
       case rel => exact ⟨k + 1, by simp, by omega, by omega, by first | rfl | trivial⟩
       case measure => simp [intOf]; omega
     ·have hlt : k < i + r := by
       have := HNO.out
       by_cases h : k = i + r
       ·have := this h; simp at this
       ·omega
      go_wp2_with fail
      refine LL.out.mono ?_
      rintro e w2 ⟨rfl, rfl⟩
      go_wp2_with fail
      go_roundw
      case rel => exact ⟨k + 1, by simp, by omega, by omega, by first | rfl | trivial⟩
      case measure => simp [intOf]; omega
    ·have t1 : decide ((k : Int) < (s.size : Int)) = false := decide_eq_false (by omega); have hke : k = i + r := by omega
     have HKE := hid hke; clear hke
     go_wp2_with fail
     go_meet
     case rel => exact ⟨by rw [HKE.out]; simp, by first | rfl | trivial⟩
  case rest =>
   obtain ⟨rfl, rfl⟩ := hcut
   by_cases c2 : 32 < r
   ·have t3 : decide ((i : Int) + (r : Int) - (i : Int) > 32) = true := decide_eq_true (by omega)
    go_wp2_with ((refine wpList_store_box (o := ⟨none, _, _, _, _, _⟩) rfl 109 (.tmp 4) (.tmp 39) (by rfl) b0 [.int .u8 0, .string ⟨#[]⟩, .int .i64 0, .int .i64 0] [.int .u8 0, .string ⟨#[]⟩, .int .i64 0, .int .i64 0] (by rfl) (by rfl) HBX.out (by rfl) (by kernel_rfl) (by intro u hu; simp at hu; rcases hu with rfl | rfl | rfl | rfl <;> rfl) ?_; intro w9 k1 k2))
    obtain ⟨z0, z1, z2, z3⟩ := box4 k1; have hoW : Only (fun _ => False) w w9 := HOW.out.trans' k2 (fun q hq e => by have := HB0.out; omega); have HOZ := hid hoW; clear hoW k2
    go_wp2_with fail
    have e : P = .bad 0 2 := by rw [← HP.out, oneP_at HLL.out, HR.out, if_pos HC.out, if_pos c2]
    exact bodyPost_ret (v := oneR i P) (by rw [e]; simp [oneR, tokV, results, Tryz.results69, go_sem, z0, z1, z2, z3]; try omega) rfl ⟨rfl, HOZ.out⟩
   ·have t3 : decide ((i : Int) + (r : Int) - (i : Int) > 32) = false := decide_eq_false (by omega); have htx : s.extract i (i + r) = ⟨((s.data.toList.drop i).take r).toArray⟩ := ba_eq (by rw [extract_list, Nat.add_sub_cancel_left]); have HTX := hid htx; clear htx
    go_wp2_with ((refine wpList_store_box (o := ⟨none, _, _, _, _, _⟩) rfl 109 (.tmp 4) (.tmp 45) (by rfl) b0 [.int .u8 0, .string ⟨#[]⟩, .int .i64 0, .int .i64 0] [.int .u8 1, .string (s.extract i (i + r)), .int .i64 0, .int .i64 0] (by rfl) (by rfl) HBX.out (by rfl) (by kernel_rfl) (by intro u hu; simp at hu; rcases hu with rfl | rfl | rfl | rfl <;> rfl) ?_; intro w9 k1 k2))
    obtain ⟨z0, z1, z2, z3⟩ := box4 k1; have hoW : Only (fun _ => False) w w9 := HOW.out.trans' k2 (fun q hq e => by have := HB0.out; omega); have HOZ := hid hoW; clear hoW k2
    go_wp2_with fail
    have e : P = .ok 1 ((s.data.toList.drop i).take r) 0 r := by rw [← HP.out, oneP_at HLL.out, HR.out, if_pos HC.out, if_neg c2]
    exact bodyPost_ret (v := oneR i P) (by rw [e]; simp [oneR, tokV, results, Tryz.results69, go_sem, z0, z1, z2, z3, HTX.out]; try omega) rfl ⟨rfl, HOZ.out⟩
 ·rw [hc] at L; have HC := hid hc; clear hc
  go_wp2_with fail
  refine L.out.mono ?_
  rintro e w1 ⟨rfl, rfl⟩; clear L
  by_cases c1 : (s[i].toNat : Int) = 45
  ·have t1 : decide ((s[i].toNat : Int) = 45) = true := decide_eq_true c1; have Q := hid (rnumber_any s i w1 hs hi); obtain ⟨y0, y1, y2, y3, y4, y5, y6, hy, hy1⟩ := oneR_form i (numP (s.data.toList.drop i)); rw [hy] at Q; have HY := hid hy; have HY1 := hid hy1; clear hy hy1
   go_wp2_with fail
   refine Q.out.mono ?_
   rintro e3 w3 ⟨rfl, O3⟩; have hbx3 := O3.block b0 (by have := (Array.getElem?_eq_some_iff.1 HBX.out).1; exact this) (fun h => h); rw [HBX.out] at hbx3; have hO3 : Only (fun _ => False) w w3 := HOW.out.trans O3; have HBX3 := hid hbx3; have HO3 := hid hO3; clear hbx3 hO3 O3
   go_wp2_with ((refine wpList_store_box (o := ⟨none, _, _, _, _, _⟩) rfl 109 (.tmp 4) (.tmp 57) (by rfl) b0 [.int .u8 0, .string ⟨#[]⟩, .int .i64 0, .int .i64 0] [y0, y1, y2, y3] (by rfl) (by rfl) HBX3.out (by rfl) (by kernel_rfl) HY1.out ?_; intro w9 k1 k2))
   obtain ⟨z0, z1, z2, z3⟩ := box4 k1; have hoW : Only (fun _ => False) w w9 := HO3.out.trans' k2 (fun q hq e => by have := HB0.out; omega); have HOZ := hid hoW; clear hoW k2
   go_wp2_with fail
   have e : P = numP (s.data.toList.drop i) := by rw [← HP.out, oneP_at HLL.out, if_neg (by rw [HC.out]; decide), if_pos (.inl (by omega))]
   exact bodyPost_ret (v := oneR i P) (by rw [e, HY.out]; simp [results, Tryz.results69, go_sem, z0, z1, z2, z3]) rfl ⟨rfl, HOZ.out⟩
  ·have t1 : decide ((s[i].toNat : Int) = 45) = false := decide_eq_false c1; have D := hid (rdigit_any s[i] w1)
   cases hd : digB s[i]
   rotate_left
   ·rw [hd] at D; have HD := hid hd; clear hd
    go_wp2_with fail
    refine D.out.mono ?_
    rintro e w2 ⟨rfl, rfl⟩; have Q := hid (rnumber_any s i w2 hs hi); obtain ⟨y0, y1, y2, y3, y4, y5, y6, hy, hy1⟩ := oneR_form i (numP (s.data.toList.drop i)); rw [hy] at Q; have HY := hid hy; have HY1 := hid hy1; clear hy hy1
    go_wp2_with fail
    refine Q.out.mono ?_
    rintro e3 w3 ⟨rfl, O3⟩; have hbx3 := O3.block b0 (by have := (Array.getElem?_eq_some_iff.1 HBX.out).1; exact this) (fun h => h); rw [HBX.out] at hbx3; have hO3 : Only (fun _ => False) w w3 := HOW.out.trans O3; have HBX3 := hid hbx3; have HO3 := hid hO3; clear hbx3 hO3 O3
    go_wp2_with ((refine wpList_store_box (o := ⟨none, _, _, _, _, _⟩) rfl 109 (.tmp 4) (.tmp 57) (by rfl) b0 [.int .u8 0, .string ⟨#[]⟩, .int .i64 0, .int .i64 0] [y0, y1, y2, y3] (by rfl) (by rfl) HBX3.out (by rfl) (by kernel_rfl) HY1.out ?_; intro w9 k1 k2))
    obtain ⟨z0, z1, z2, z3⟩ := box4 k1; have hoW : Only (fun _ => False) w w9 := HO3.out.trans' k2 (fun q hq e => by have := HB0.out; omega); have HOZ := hid hoW; clear hoW k2
    go_wp2_with fail
    have e : P = numP (s.data.toList.drop i) := by rw [← HP.out, oneP_at HLL.out, if_neg (by rw [HC.out]; decide), if_pos (.inr HD.out)]
    exact bodyPost_ret (v := oneR i P) (by rw [e, HY.out]; simp [results, Tryz.results69, go_sem, z0, z1, z2, z3]) rfl ⟨rfl, HOZ.out⟩
   ·rw [hd] at D; have hn45 : ¬ (s[i].toNat = 45 ∨ digB s[i] = true) := fun h => h.elim (fun h => c1 (by omega)) (fun h => by rw [hd] at h; cases h)
    have HD := hid hn45; clear hd hn45
    go_wp2_with fail
    refine D.out.mono ?_
    rintro e w2 ⟨rfl, rfl⟩; clear D
    by_cases c2 : (s[i].toNat : Int) = 34
    ·have t2 : decide ((s[i].toNat : Int) = 34) = true := decide_eq_true c2; have Q := hid (rtext_any s i w2 hs hi); obtain ⟨y0, y1, y2, y3, y4, y5, y6, hy, hy1⟩ := oneR_form i (txtP [] 1 (s.data.toList.drop (i + 1))); rw [hy] at Q; have HY := hid hy; have HY1 := hid hy1; clear hy hy1
     go_wp2_with fail
     refine Q.out.mono ?_
     rintro e3 w3 ⟨rfl, O3⟩; have hbx3 := O3.block b0 (by have := (Array.getElem?_eq_some_iff.1 HBX.out).1; exact this) (fun h => h); rw [HBX.out] at hbx3; have hO3 : Only (fun _ => False) w w3 := HOW.out.trans O3; have HBX3 := hid hbx3; have HO3 := hid hO3; clear hbx3 hO3 O3
     go_wp2_with ((refine wpList_store_box (o := ⟨none, _, _, _, _, _⟩) rfl 109 (.tmp 4) (.tmp 67) (by rfl) b0 [.int .u8 0, .string ⟨#[]⟩, .int .i64 0, .int .i64 0] [y0, y1, y2, y3] (by rfl) (by rfl) HBX3.out (by rfl) (by kernel_rfl) HY1.out ?_; intro w9 k1 k2))
     obtain ⟨z0, z1, z2, z3⟩ := box4 k1; have hoW : Only (fun _ => False) w w9 := HO3.out.trans' k2 (fun q hq e => by have := HB0.out; omega); have HOZ := hid hoW; clear hoW k2
     go_wp2_with fail
     have e : P = txtP [] 1 (s.data.toList.drop (i + 1)) := by rw [← HP.out, oneP_at HLL.out, if_neg (by rw [HC.out]; decide), if_neg HD.out, if_pos (by omega)]
     exact bodyPost_ret (v := oneR i P) (by rw [e, HY.out]; simp [results, Tryz.results69, go_sem, z0, z1, z2, z3]) rfl ⟨rfl, HOZ.out⟩
    ·have t2 : decide ((s[i].toNat : Int) = 34) = false := decide_eq_false c2; have hdt := dots_at s i hi
     by_cases c3 : (s[i].toNat : Int) = 46
     ·have t3 : decide ((s[i].toNat : Int) = 46) = true := decide_eq_true c3; have hsg : signB s[i] = false := by rw [signB_cases]; simp; omega
      by_cases c4 : i + 2 < s.size
      ·have t4 : decide ((s.size : Int) - (i : Int) ≥ 3) = true := decide_eq_true (by omega); have hb1 : decide (i + 1 < s.size) = true := decide_eq_true (by omega)
       by_cases c5 : (s[i + 1].toNat : Int) = 46
       ·have t5 : decide ((s[i + 1].toNat : Int) = 46) = true := decide_eq_true c5
        by_cases c6 : (s[i + 2].toNat : Int) = 46
        ·have t6 : decide ((s[i + 2].toNat : Int) = 46) = true := decide_eq_true c6; have HDT : dotsB (s.data.toList.drop i) = true := by rw [hdt]; exact decide_eq_true ⟨by omega, c4, by omega, by omega⟩
         have HDD := hid HDT; clear HDT hdt
         go_wp2_with ((refine wpList_store_box (o := ⟨none, _, _, _, _, _⟩) rfl 109 (.tmp 4) (.tmp 93) (by rfl) b0 [.int .u8 0, .string ⟨#[]⟩, .int .i64 0, .int .i64 0] [.int .u8 4, .string ⟨#[46, 46, 46]⟩, .int .i64 0, .int .i64 0] (by rfl) (by rfl) HBX.out (by rfl) (by kernel_rfl) (by intro u hu; simp at hu; rcases hu with rfl | rfl | rfl | rfl <;> rfl) ?_; intro w9 k1 k2))
         obtain ⟨z0, z1, z2, z3⟩ := box4 k1; have hoW : Only (fun _ => False) w w9 := HOW.out.trans' k2 (fun q hq e => by have := HB0.out; omega); have HOZ := hid hoW; clear hoW k2
         go_wp2_with fail
         have e : P = .ok 4 [46, 46, 46] 0 3 := by rw [← HP.out, oneP_at HLL.out, if_neg (by rw [HC.out]; decide), if_neg HD.out, if_neg (by omega), if_pos HDD.out]
         exact bodyPost_ret (v := oneR i P) (by rw [e]; simp [oneR, tokV, results, Tryz.results69, go_sem, z0, z1, z2, z3]; try omega) rfl ⟨rfl, HOZ.out⟩
        ·have t6 : decide ((s[i + 2].toNat : Int) = 46) = false := decide_eq_false c6; have HDT : ¬ dotsB (s.data.toList.drop i) = true := by rw [hdt]; simp; intro _ _ _; omega
         have HDD := hid HDT; have HSG := hid hsg; clear HDT hdt hsg
         go_wp2_with ((refine wpList_store_box (o := ⟨none, _, _, _, _, _⟩) rfl 109 (.tmp 4) (.tmp 96) (by rfl) b0 [.int .u8 0, .string ⟨#[]⟩, .int .i64 0, .int .i64 0] [.int .u8 0, .string ⟨#[]⟩, .int .i64 0, .int .i64 0] (by rfl) (by rfl) HBX.out (by rfl) (by kernel_rfl) (by intro u hu; simp at hu; rcases hu with rfl | rfl | rfl | rfl <;> rfl) ?_; intro w9 k1 k2))
         obtain ⟨z0, z1, z2, z3⟩ := box4 k1; have hoW : Only (fun _ => False) w w9 := HOW.out.trans' k2 (fun q hq e => by have := HB0.out; omega); have HOZ := hid hoW; clear hoW k2
         go_wp2_with fail
         have e : P = .bad 0 4 := by rw [← HP.out, oneP_at HLL.out, if_neg (by rw [HC.out]; decide), if_neg HD.out, if_neg (by omega), if_neg HDD.out, if_neg (by rw [HSG.out]; decide)]
         exact bodyPost_ret (v := oneR i P) (by rw [e]; simp [oneR, tokV, results, Tryz.results69, go_sem, z0, z1, z2, z3]; try omega) rfl ⟨rfl, HOZ.out⟩
       ·have t5 : decide ((s[i + 1].toNat : Int) = 46) = false := decide_eq_false c5; have HDT : ¬ dotsB (s.data.toList.drop i) = true := by rw [hdt]; simp; intro _ _ h; omega
        have HDD := hid HDT; have HSG := hid hsg; clear HDT hdt hsg
        go_wp2_with ((refine wpList_store_box (o := ⟨none, _, _, _, _, _⟩) rfl 109 (.tmp 4) (.tmp 96) (by rfl) b0 [.int .u8 0, .string ⟨#[]⟩, .int .i64 0, .int .i64 0] [.int .u8 0, .string ⟨#[]⟩, .int .i64 0, .int .i64 0] (by rfl) (by rfl) HBX.out (by rfl) (by kernel_rfl) (by intro u hu; simp at hu; rcases hu with rfl | rfl | rfl | rfl <;> rfl) ?_; intro w9 k1 k2))
        obtain ⟨z0, z1, z2, z3⟩ := box4 k1; have hoW : Only (fun _ => False) w w9 := HOW.out.trans' k2 (fun q hq e => by have := HB0.out; omega); have HOZ := hid hoW; clear hoW k2
        go_wp2_with fail
        have e : P = .bad 0 4 := by rw [← HP.out, oneP_at HLL.out, if_neg (by rw [HC.out]; decide), if_neg HD.out, if_neg (by omega), if_neg HDD.out, if_neg (by rw [HSG.out]; decide)]
        exact bodyPost_ret (v := oneR i P) (by rw [e]; simp [oneR, tokV, results, Tryz.results69, go_sem, z0, z1, z2, z3]; try omega) rfl ⟨rfl, HOZ.out⟩
      ·have t4 : decide ((s.size : Int) - (i : Int) ≥ 3) = false := decide_eq_false (by omega); have HDT : ¬ dotsB (s.data.toList.drop i) = true := by rw [hdt]; simp; intro _ h; omega
       have HDD := hid HDT; have HSG := hid hsg; clear HDT hdt hsg
       go_wp2_with ((refine wpList_store_box (o := ⟨none, _, _, _, _, _⟩) rfl 109 (.tmp 4) (.tmp 96) (by rfl) b0 [.int .u8 0, .string ⟨#[]⟩, .int .i64 0, .int .i64 0] [.int .u8 0, .string ⟨#[]⟩, .int .i64 0, .int .i64 0] (by rfl) (by rfl) HBX.out (by rfl) (by kernel_rfl) (by intro u hu; simp at hu; rcases hu with rfl | rfl | rfl | rfl <;> rfl) ?_; intro w9 k1 k2))
       obtain ⟨z0, z1, z2, z3⟩ := box4 k1; have hoW : Only (fun _ => False) w w9 := HOW.out.trans' k2 (fun q hq e => by have := HB0.out; omega); have HOZ := hid hoW; clear hoW k2
       go_wp2_with fail
       have e : P = .bad 0 4 := by rw [← HP.out, oneP_at HLL.out, if_neg (by rw [HC.out]; decide), if_neg HD.out, if_neg (by omega), if_neg HDD.out, if_neg (by rw [HSG.out]; decide)]
       exact bodyPost_ret (v := oneR i P) (by rw [e]; simp [oneR, tokV, results, Tryz.results69, go_sem, z0, z1, z2, z3]; try omega) rfl ⟨rfl, HOZ.out⟩
     ·have t3 : decide ((s[i].toNat : Int) = 46) = false := decide_eq_false c3; have HDT : ¬ dotsB (s.data.toList.drop i) = true := by rw [hdt]; simp; omega
      have HDD := hid HDT; clear HDT hdt; obtain ⟨sb, hsb⟩ : ∃ sb, signB s[i] = sb := ⟨_, rfl⟩; have HSB := hid hsb; clear hsb
      go_upto_region 17 with (fail)
      go_cut [98] from 10 to 148 (fun v w' => v = .bool sb ∧ w' = w2)
      case first =>
       rcases signB_or s[i] with ⟨hn, hq⟩ | ⟨hn, hq⟩ | ⟨hn, hq⟩ | ⟨hn, hq⟩ | ⟨hn, hq⟩ | ⟨hn, hq⟩ | ⟨hn, hq⟩ | ⟨hn, hq⟩ | ⟨hn, hq⟩ | ⟨hn, hq⟩ | ⟨hn, hq⟩ | ⟨hn, hq⟩ | ⟨hn, hq⟩ | ⟨n0, n1, n2, n3, n4, n5, n6, n7, n8, n9, n10, n11, n12, hq⟩
       all_goals (
        rw [HSB.out] at hq; subst hq; clear HSB
        go_wp2_with fail
        go_meet
        case rel => exact ⟨by simp [*], by first | rfl | trivial⟩)
      case rest =>
       obtain ⟨rfl, rfl⟩ := hcut
       cases sb
       rotate_left
       ·have hone := one_at s i hi; have HONE := hid hone; clear hone
        go_wp2_with ((refine wpList_store_box (o := ⟨none, _, _, _, _, _⟩) rfl 109 (.tmp 4) (.tmp 154) (by rfl) b0 [.int .u8 0, .string ⟨#[]⟩, .int .i64 0, .int .i64 0] [.int .u8 4, .string (s.extract i (i + 1)), .int .i64 0, .int .i64 0] (by rfl) (by rfl) HBX.out (by rfl) (by kernel_rfl) (by intro u hu; simp at hu; rcases hu with rfl | rfl | rfl | rfl <;> rfl) ?_; intro w9 k1 k2))
        obtain ⟨z0, z1, z2, z3⟩ := box4 k1; have hoW : Only (fun _ => False) w w9 := HOW.out.trans' k2 (fun q hq e => by have := HB0.out; omega); have HOZ := hid hoW; clear hoW k2
        go_wp2_with fail
        have e : P = .ok 4 [s[i]] 0 1 := by rw [← HP.out, oneP_at HLL.out, if_neg (by rw [HC.out]; decide), if_neg HD.out, if_neg (by omega), if_neg HDD.out, if_pos HSB.out]
        exact bodyPost_ret (v := oneR i P) (by rw [e]; simp [oneR, tokV, results, Tryz.results69, go_sem, z0, z1, z2, z3, HONE.out]; try omega) rfl ⟨rfl, HOZ.out⟩
       ·skip
        go_wp2_with ((refine wpList_store_box (o := ⟨none, _, _, _, _, _⟩) rfl 109 (.tmp 4) (.tmp 157) (by rfl) b0 [.int .u8 0, .string ⟨#[]⟩, .int .i64 0, .int .i64 0] [.int .u8 0, .string ⟨#[]⟩, .int .i64 0, .int .i64 0] (by rfl) (by rfl) HBX.out (by rfl) (by kernel_rfl) (by intro u hu; simp at hu; rcases hu with rfl | rfl | rfl | rfl <;> rfl) ?_; intro w9 k1 k2))
        obtain ⟨z0, z1, z2, z3⟩ := box4 k1; have hoW : Only (fun _ => False) w w9 := HOW.out.trans' k2 (fun q hq e => by have := HB0.out; omega); have HOZ := hid hoW; clear hoW k2
        go_wp2_with fail
        have e : P = .bad 0 4 := by rw [← HP.out, oneP_at HLL.out, if_neg (by rw [HC.out]; decide), if_neg HD.out, if_neg (by omega), if_neg HDD.out, if_neg (by rw [HSB.out]; decide)]
        exact bodyPost_ret (v := oneR i P) (by rw [e]; simp [oneR, tokV, results, Tryz.results69, go_sem, z0, z1, z2, z3]; try omega) rfl ⟨rfl, HOZ.out⟩
theorem infoRok : (Tryz.prog.info? 109).map (fun i => (i.zero, i.size, i.bytes)) = some (some (.agg #[.int .u8 0, .string ⟨#[]⟩, .int .i64 0, .int .i64 0]), 4, 40) := by kernel_rfl
theorem blkB_or (u : UInt8) : ((u.toNat : Int) = 32 ∧ blkB u = true) ∨ ((u.toNat : Int) = 10 ∧ blkB u = true) ∨ ((u.toNat : Int) = 9 ∧ blkB u = true) ∨ ((u.toNat : Int) = 13 ∧ blkB u = true) ∨ ((u.toNat : Int) = 44 ∧ blkB u = true) ∨ (¬ (u.toNat : Int) = 32 ∧ ¬ (u.toNat : Int) = 10 ∧ ¬ (u.toNat : Int) = 9 ∧ ¬ (u.toNat : Int) = 13 ∧ ¬ (u.toNat : Int) = 44 ∧ blkB u = false) := by
 revert u; refine u8_all ?_; decide +kernel
def RokRes (w : World) (P : Out) (e : Ending) (w' : World) : Prop :=
 match P with
 | .ok ts => ∃ v, e = .returned (.tuple #[v, .int .i64 0, .int .i64 0]) ∧ w'.ownsRow w.heap.size 109 4 v ts.length (toksC ts) ∧ Only (fun _ => False) w w'
 | .bad a c => e = .returned (.tuple #[.slice none 0 0, .int .i64 (a : Int), .int .i64 (c : Int)]) ∧ Only (fun _ => False) w w'
theorem RokRes.ok {w w' : World} {ts : List Tok} (v : Value) (h : w'.ownsRow w.heap.size 109 4 v ts.length (toksC ts)) (ho : Only (fun _ => False) w w') : RokRes w (.ok ts) (.returned (.tuple #[v, .int .i64 0, .int .i64 0])) w' := ⟨v, rfl, h, ho⟩
theorem lineB_yes {c : UInt8} (h : lineB c = true) : ¬ (c.toNat : Int) = 10 := by
 unfold lineB at h; simp only [Bool.not_eq_true', decide_eq_false_iff_not] at h; omega
theorem lineB_no {c : UInt8} (h : lineB c = false) : (c.toNat : Int) = 10 := by
 unfold lineB at h; simp only [Bool.not_eq_false', decide_eq_true_eq] at h; omega
set_option maxRecDepth 100000 in
set_option maxHeartbeats 40000000 in
theorem rtokens_any (s : ByteArray) (w : World) (hs : s.size ≤ maxLen) :
  Calls Tryz.prog 33 #[.string s] w fun e w' => RokRes w (toks s.data.toList) e w' := by
 unfold maxLen at hs; obtain ⟨P, hP⟩ : ∃ P, toks s.data.toList = P := ⟨_, rfl⟩; rw [hP]; have hlen : s.data.toList.length = s.size := rfl
 by_cases hl : 2000 < s.size
 ·have t1 : decide ((s.size : Int) > 2000) = true := decide_eq_true (by omega); have e : P = .bad 0 2 := by rw [← hP]; unfold toks; rw [hlen, if_pos hl]
  rw [e]
  go_enter Tryz.func33, Tryz.ntmps33
  go_wp2_with fail
  exact bodyPost_ret (v := .tuple #[.slice none 0 0, .int .i64 0, .int .i64 2]) (by simp [results, Tryz.results33, go_sem]) rfl ⟨rfl, Only.refl _ _⟩
 replace hs : s.size ≤ 281474976710656 := by omega
 have t1 : decide ((s.size : Int) > 2000) = false := decide_eq_false (by omega); have hP2 : toksA 0 s.data.toList = P := by rw [← hP]; unfold toks; rw [hlen, if_neg hl]
 have HP := hid hP2; have HLEN := hid hlen; clear hP hP2 hlen
 go_enter Tryz.func33, Tryz.ntmps33
 go_wp2_with fail
 clear t1
 go_loopw [5, 6] (fun o i wr => ∃ k ts, i = .int .i64 (k : Nat) ∧ k ≤ s.size ∧ ts.length ≤ k ∧ Hid (wr.ownsRow w.heap.size 109 4 o ts.length (toksC ts)) ∧ Hid (Only (fun _ => False) w wr) ∧ Hid ((toksA k (s.data.toList.drop k)).app ts = P)) (fun _ i _ => s.size - (intOf i).toNat)
 case atStart => exact ⟨0, [], by simp, by omega, by simp, hid (own_nil _ _ _ _), hid (Only.refl _ _), hid (by rw [Out.app_nil, List.drop_zero]; exact HP.out)⟩
 case round =>
  obtain ⟨k, ts, rfl, hk, hts, OW, OO, TP⟩ := hrel; obtain ⟨a5, c5, rfl, hc1, hc2, hc3⟩ := own_form OW.out
  by_cases hlm : k < s.size
  rotate_left
  ·have t1 : decide ((k : Int) < (s.size : Int)) = false := decide_eq_false (by omega); have hke : k = s.size := by omega
   have HKE := hid hke; clear hke
   go_upto_region 18 with (fail)
   have hoa : (wr.alloc (.cells (tokC ⟨0, [], 0, k⟩).toArray 109)).ownsRow w.heap.size 109 4 (.slice a5 ts.length c5) ts.length (toksC ts) := own_only' OW.out ((Only.refl (fun _ => False) wr).alloc _) (fun _ _ h => h); have hys : ∀ j u, (tokC ⟨0, [], 0, k⟩)[j]? = some u → (wr.alloc (.cells (tokC ⟨0, [], 0, k⟩).toArray 109)).cell? ((⟨wr.heap.size, 0, none⟩ : Addr).add j) = some u := fun j u hu => by
    rw [addr_add]; exact range_of_block (cs := tokC ⟨0, [], 0, k⟩) (heap_new _ _) j u hu
   have hba : w.heap.size ≤ (wr.alloc (.cells (tokC ⟨0, [], 0, k⟩).toArray 109)).heap.size := by have := OO.out.size; simp; omega
   have hoA : Only (fun _ => False) w (wr.alloc (.cells (tokC ⟨0, [], 0, k⟩).toArray 109)) := OO.out.alloc _; have HOA := hid hoa; have HYS := hid hys; have HBA := hid hba; have HOAA := hid hoA; clear hoa hys hba hoA; unfold tokC at HOA HBA HOAA; have hty : (tokC ⟨0, [], 0, k⟩) = [.int .u8 0, .string ⟨#[]⟩, .int .i64 0, .int .i64 (k : Int)] := rfl; rw [hty] at HYS; clear hty
   go_wp2_with ((refine wpList_append_own2 (o := ⟨some 81, _, _, _, _, _⟩) rfl (.tmp 77) (.tmp 80) 66 109 (by rfl) Tryz.underlying66 infoRok rfl (by decide) w.heap.size (.slice a5 ts.length c5) ts.length 1 1 (toksC ts) [.int .u8 0, .string ⟨#[]⟩, .int .i64 0, .int .i64 (k : Int)] ⟨wr.heap.size, 0, none⟩ (by rfl) (by rfl) HOA.out (by rfl) HYS.out (by intro u hu; simp [tokC] at hu; rcases hu with rfl | rfl | rfl | rfl <;> rfl) (by unfold maxLen; omega) (by omega) HBA.out ?_; intro v' w9 q1 q2 q3))
   have e : P = .ok (ts ++ [⟨0, [], 0, k⟩]) := by rw [← TP.out, drop_all s k (by have := HKE.out; omega), toksA_nil]; rfl
   rw [e]; have ho : Only (fun _ => False) w w9 := HOAA.out.trans' q2 (fun q hq h => by have := (hc3 q h).1; omega); have hq1 : w9.ownsRow w.heap.size 109 4 v' (ts ++ [(⟨0, [], 0, k⟩ : Tok)]).length (toksC (ts ++ [(⟨0, [], 0, k⟩ : Tok)])) := by
    rw [← toksC_snoc, List.length_append]; exact q1
   have HO9 := hid ho; have HQ1 := hid hq1; clear ho hq1 q1 q2 q3
   go_wp2_with fail
   exact bodyPost_ret (v := .tuple #[v', .int .i64 0, .int .i64 0]) (by simp [results, Tryz.results33, go_sem]) rfl (RokRes.ok _ HQ1.out HO9.out)
  have t1 : decide ((k : Int) < (s.size : Int)) = true := decide_eq_true (by omega); have tq := TP.out; rw [drop_get s k hlm] at tq; have TQ := hid tq; clear tq TP; obtain ⟨sb, hsb⟩ : ∃ sb, blkB s[k] = sb := ⟨_, rfl⟩; have HSB := hid hsb; clear hsb
  go_upto_region 7 with (fail)
  clear t1
  go_cut [22] from 15 to 40 (fun v w' => v = .bool sb ∧ w' = wr)
  case first =>
   rcases blkB_or s[k] with ⟨hn, hq⟩ | ⟨hn, hq⟩ | ⟨hn, hq⟩ | ⟨hn, hq⟩ | ⟨hn, hq⟩ | ⟨n1, n2, n3, n4, n5, hq⟩
   all_goals (
    rw [HSB.out] at hq; subst hq; clear HSB
    go_wp2_with fail
    go_meet
    case rel => exact ⟨by simp [*], by first | rfl | trivial⟩)
  case rest =>
   obtain ⟨rfl, rfl⟩ := hcut
   cases sb
   rotate_left
   ·have tq := TQ.out; rw [toksA_blk _ HSB.out] at tq; have TR := hid tq; clear tq TQ
    go_wp2_with fail
    go_roundw
    case rel => first | exact ⟨k + 1, ts, by simp, by omega, by omega, OW, OO, TR⟩ | ((repeat apply Exists.intro); refine ⟨?_, rfl⟩; exact ⟨k + 1, ts, by simp, by omega, by omega, OW, OO, TR⟩)
    case measure => simp [intOf]; omega
   have hb0 := HSB.out; have tq := TQ.out; have HBL := hid hb0; clear hb0 HSB
   by_cases c1 : (s[k].toNat : Int) = 35
   ·have t3 : decide ((s[k].toNat : Int) = 35) = true := decide_eq_true c1; rw [toksA_rem _ (by omega)] at tq; obtain ⟨r, hr⟩ : ∃ r, runL lineB (s.data.toList.drop k) = r := ⟨_, rfl⟩; have e2 : r = runL lineB (s.data.toList.drop (k + 1)) + 1 := by
     have : lineB s[k] = true := by unfold lineB; rw [decide_eq_false (by omega)]; rfl
     rw [← hr, drop_get s k hlm, runL, if_pos this]
    have hrl : k + r ≤ s.size := by rcases runL_at hr with h | h <;> omega
    have e3 : (toksA (k + r) (s.data.toList.drop (k + r))).app ts = P := by
     have e4 : k + r = k + 1 + runL lineB (s.data.toList.drop (k + 1)) := by omega
     rw [e4, ← tq, List.drop_drop]
    have hr1 : 1 ≤ r := by omega
    have TR := hid e3; have HR := hid hr; clear tq hr e2 e3 TQ
    go_wp2_with fail
    go_loopw [6] (fun x wx => ∃ m : Nat, x = .int .i64 (m : Int) ∧ k ≤ m ∧ m ≤ k + r ∧ wx = wc) (fun x _ => s.size - (intOf x).toNat)
    case atStart => exact ⟨k, rfl, by omega, by omega, rfl⟩
    case round =>
     obtain ⟨m, rfl, hm1, hm2, rfl⟩ := hrel
     by_cases hms : m < s.size
     ·have t4 : decide ((m : Int) < (s.size : Int)) = true := decide_eq_true (by omega)
      by_cases hmr : m < k + r
      ·have hln := run_in HR.out m hm1 hmr hms; have hnl := lineB_yes hln; clear hln
       go_wp2_with fail
       go_roundw
       case rel => first | exact ⟨m + 1, by simp, by omega, by omega, by first | rfl | trivial⟩ | ((repeat apply Exists.intro); refine ⟨?_, rfl⟩; exact ⟨m + 1, by simp, by omega, by omega, by first | rfl | trivial⟩)
       case measure => simp [intOf]; omega
      ·have hme : m = k + r := by omega
       subst hme; have hln := run_out HR.out hms; have hnl := lineB_no hln; clear hln
       go_wp2_with fail
       go_roundw
       case rel => first | exact ⟨k + r, ts, by simp, by omega, by omega, OW, OO, TR⟩ | ((repeat apply Exists.intro); refine ⟨?_, rfl⟩; exact ⟨k + r, ts, by simp, by omega, by omega, OW, OO, TR⟩)
       case measure => simp [intOf]; omega
     ·have t4 : decide ((m : Int) < (s.size : Int)) = false := decide_eq_false (by omega); have hme : m = k + r := by omega
      subst hme
      go_wp2_with fail
      go_roundw
      case rel => first | exact ⟨k + r, ts, by simp, by omega, by omega, OW, OO, TR⟩ | ((repeat apply Exists.intro); refine ⟨?_, rfl⟩; exact ⟨k + r, ts, by simp, by omega, by omega, OW, OO, TR⟩)
      case measure => simp [intOf]; omega
   ·have t3 : decide ((s[k].toNat : Int) = 35) = false := decide_eq_false c1; have T := hid (rone_any s k wc (by omega) hlm); rw [drop_get s k hlm] at T; have hb0 := HBL.out
    cases ho : oneP (s[k] :: s.data.toList.drop (k + 1)) with
    | bad off ee =>
     rw [ho] at T; unfold oneR tokV at T; rw [toksA_bad _ hb0 (by omega) ho] at tq; have TR := hid tq; clear tq TQ; have hof := oneP_off ho; have t4 : decide ((ee : Int) = 0) = false := decide_eq_false (by omega); rw [List.length_cons, List.length_drop, HLEN.out] at hof
     go_wp2_with fail
     refine T.out.mono ?_
     rintro e2 w2 ⟨rfl, O2⟩; have hbx := heap_new w2 (.cells [.int .u8 0, .string ⟨#[]⟩, .int .i64 0, .int .i64 0].toArray 109); have hO2 : Only (fun _ => False) w (w2.alloc (.cells [.int .u8 0, .string ⟨#[]⟩, .int .i64 0, .int .i64 0].toArray 109)) := (OO.out.trans O2).alloc _; have hsz : w.heap.size ≤ w2.heap.size := (OO.out.trans O2).size; obtain ⟨b0, hb0'⟩ : ∃ b0, w2.heap.size = b0 := ⟨_, rfl⟩; rw [hb0'] at hbx hsz; have HBX := hid hbx; have HO2 := hid hO2; have HSZ := hid hsz; have OT := hid O2; clear hbx hO2 hsz O2
     go_wp2_with ((refine wpList_store_box (o := ⟨none, _, _, _, _, _⟩) rfl 109 (.tmp 8) (.tmp 62) (by rfl) b0 [.int .u8 0, .string ⟨#[]⟩, .int .i64 0, .int .i64 0] [.int .u8 0, .string ⟨#[]⟩, .int .i64 0, .int .i64 0] (by rfl) (by rfl) HBX.out (by rfl) (by kernel_rfl) (by intro u hu; simp at hu; rcases hu with rfl | rfl | rfl | rfl <;> rfl) ?_; intro w9 k1 k2))
     have hoW : Only (fun _ => False) w w9 := HO2.out.trans' k2 (fun q hq e => by have := HSZ.out; omega); have HOW := hid hoW; clear hoW k1 k2; have e : P = .bad (k + off) ee := TR.out.symm; rw [e]
     go_wp2_with fail
     exact bodyPost_ret (v := .tuple #[.slice none 0 0, .int .i64 ((k + off : Nat) : Int), .int .i64 (ee : Int)]) (by simp [results, Tryz.results33, go_sem]) rfl ⟨rfl, HOW.out⟩
    | ok kk tt nn len =>
     rw [ho] at T; unfold oneR tokV at T; have hol := oneP_len ho; rw [toksA_one _ hb0 (by omega) ho, ← drop_get s k hlm, List.drop_drop, Out.app_cons] at tq; have TR := hid tq; clear tq TQ; rw [List.length_cons, List.length_drop, HLEN.out] at hol
     go_wp2_with fail
     refine T.out.mono ?_
     rintro e2 w2 ⟨rfl, O2⟩; have hbx := heap_new w2 (.cells [.int .u8 0, .string ⟨#[]⟩, .int .i64 0, .int .i64 0].toArray 109); have hO2 : Only (fun _ => False) w (w2.alloc (.cells [.int .u8 0, .string ⟨#[]⟩, .int .i64 0, .int .i64 0].toArray 109)) := (OO.out.trans O2).alloc _; have hsz : w.heap.size ≤ w2.heap.size := (OO.out.trans O2).size; obtain ⟨b0, hb0'⟩ : ∃ b0, w2.heap.size = b0 := ⟨_, rfl⟩; rw [hb0'] at hbx hsz; have HBX := hid hbx; have HO2 := hid hO2; have HSZ := hid hsz; have OT := hid O2; clear hbx hO2 hsz O2
     go_upto_region 15 with ((refine wpList_store_box (o := ⟨none, _, _, _, _, _⟩) rfl 109 (.tmp 8) (.tmp 62) (by rfl) b0 [.int .u8 0, .string ⟨#[]⟩, .int .i64 0, .int .i64 0] [.int .u8 (kk : Int), .string ⟨tt.toArray⟩, .int .i64 nn, .int .i64 0] (by rfl) (by rfl) HBX.out (by rfl) (by kernel_rfl) (by intro u hu; simp at hu; rcases hu with rfl | rfl | rfl | rfl <;> rfl) ?_; intro w9 k1 k2))
     obtain ⟨z0, z1, z2, z3⟩ := box4 k1; have fz : w9.frozen? ⟨b0, 3, none⟩ = false := by simp [World.frozen?, k1]
     have h10 := heap_set (o := 3) k1 (.int .i64 (k : Int)); have ho10 : Only (fun _ => False) w (w9.setCell ⟨b0, 3, none⟩ (.int .i64 (k : Int))) := (HO2.out.trans' k2 (fun q hq e => by have := HSZ.out; omega)).setCell (.inr HSZ.out) _; have hr10 : Only (fun q => q = b0) w2 (w9.setCell ⟨b0, 3, none⟩ (.int .i64 (k : Int))) := (((Only.refl _ w2).alloc _).trans' k2 (fun _ _ h => h)).setCell (.inl rfl) _; have H10 := hid h10; have HO10 := hid ho10; have HR10 := hid hr10; clear h10 ho10 hr10 k1 k2
     go_upto_region 16 with (fail)
     clear z0 z1 z2 z3 fz
     generalize w9.setCell ⟨b0, 3, none⟩ (.int .i64 (k : Int)) = wc0 at *
     obtain ⟨z0, z1, z2, z3⟩ := box4 (show wc0.heap[b0]? = some (.cells #[.int .u8 (kk : Int), .string ⟨tt.toArray⟩, .int .i64 nn, .int .i64 (k : Int)] 109 (0, 0)) from H10.out); have hall : Only (fun q => q = b0) wc wc0 := (OT.out.mono (T := fun q => q = b0) (fun _ _ h => h.elim)).trans HR10.out; have hb1 : wc.heap.size ≤ b0 := by have := OT.out.size; omega
     have hoa : (wc0.alloc (.cells [.int .u8 (kk : Int), .string ⟨tt.toArray⟩, .int .i64 nn, .int .i64 (k : Int)].toArray 109)).ownsRow w.heap.size 109 4 (.slice a5 ts.length c5) ts.length (toksC ts) := own_only' OW.out (hall.alloc _) (fun q h e => by have := (hc3 q h).2; omega); have hys : ∀ j u, ([.int .u8 (kk : Int), .string ⟨tt.toArray⟩, .int .i64 nn, .int .i64 (k : Int)] : List Value)[j]? = some u → (wc0.alloc (.cells [.int .u8 (kk : Int), .string ⟨tt.toArray⟩, .int .i64 nn, .int .i64 (k : Int)].toArray 109)).cell? ((⟨wc0.heap.size, 0, none⟩ : Addr).add j) = some u := fun j u hu => by
      rw [addr_add]; exact range_of_block (cs := [.int .u8 (kk : Int), .string ⟨tt.toArray⟩, .int .i64 nn, .int .i64 (k : Int)]) (heap_new _ _) j u hu
     have hba : w.heap.size ≤ (wc0.alloc (.cells [.int .u8 (kk : Int), .string ⟨tt.toArray⟩, .int .i64 nn, .int .i64 (k : Int)].toArray 109)).heap.size := by have := HO10.out.size; simp; omega
     have hoA : Only (fun _ => False) w (wc0.alloc (.cells [.int .u8 (kk : Int), .string ⟨tt.toArray⟩, .int .i64 nn, .int .i64 (k : Int)].toArray 109)) := HO10.out.alloc _; have HOA := hid hoa; have HYS := hid hys; have HBA := hid hba; have HOAA := hid hoA; clear hoa hys hba hoA hall hb1
     go_wp2_with ((refine wpList_append_own2 (o := ⟨some 75, _, _, _, _, _⟩) rfl (.tmp 72) (.tmp 74) 66 109 (by rfl) Tryz.underlying66 infoRok rfl (by decide) w.heap.size (.slice a5 ts.length c5) ts.length 1 1 (toksC ts) [.int .u8 (kk : Int), .string ⟨tt.toArray⟩, .int .i64 nn, .int .i64 (k : Int)] ⟨wc0.heap.size, 0, none⟩ (by rfl) (by rfl) HOA.out (by rfl) HYS.out (by intro u hu; simp [tokC] at hu; rcases hu with rfl | rfl | rfl | rfl <;> rfl) (by unfold maxLen; omega) (by omega) HBA.out ?_; intro v' w9 q1 q2 q3))
     have ho9 : Only (fun _ => False) w w9 := HOAA.out.trans' q2 (fun q hq h => by have := (hc3 q h).1; omega); have hq1 : w9.ownsRow w.heap.size 109 4 v' (ts ++ [(⟨kk, tt, nn, k⟩ : Tok)]).length (toksC (ts ++ [(⟨kk, tt, nn, k⟩ : Tok)])) := by
      rw [← toksC_snoc, List.length_append]; exact q1
     have HO9 := hid ho9; have HQ1 := hid hq1; clear ho9 hq1 q1 q2 q3
     go_wp2_with fail
     go_roundw
     case rel => first | exact ⟨k + len, ts ++ [⟨kk, tt, nn, k⟩], by simp, by omega, by rw [List.length_append, List.length_singleton]; omega, HQ1, HO9, TR⟩ | ((repeat apply Exists.intro); refine ⟨?_, rfl⟩; exact ⟨k + len, ts ++ [⟨kk, tt, nn, k⟩], by simp, by omega, by rw [List.length_append, List.length_singleton]; omega, HQ1, HO9, TR⟩)
     case measure => simp [intOf]; omega
end Go.Proofs.YtnkpoddbbdmipaaGreatDoor
