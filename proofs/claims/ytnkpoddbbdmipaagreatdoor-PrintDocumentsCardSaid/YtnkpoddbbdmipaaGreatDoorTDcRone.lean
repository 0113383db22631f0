/- . -/
import Derived.Test.YtnkpoddbbdmipaaGreatDoorTDcRtxt
namespace Go.Proofs.YtnkpoddbbdmipaaGreatDoor
open Go Go.RowKit
open Go.Lib (hid)
set_option linter.unusedVariables false
set_option linter.unusedSimpArgs false
theorem signB_cases (u : UInt8) : signB u = (decide (u.toNat = 33) || decide (u.toNat = 36) || decide (u.toNat = 40) || decide (u.toNat = 41) || decide (u.toNat = 58) || decide (u.toNat = 61) || decide (u.toNat = 64) || decide (u.toNat = 91) || decide (u.toNat = 93) || decide (u.toNat = 123) || decide (u.toNat = 124) || decide (u.toNat = 125) || decide (u.toNat = 38)) := by
 revert u; refine u8_all ?_; decide +kernel
theorem signB_or (u : UInt8) : ((u.toNat : Int) = 33 ∧ signB u = true) ∨ ((u.toNat : Int) = 36 ∧ signB u = true) ∨ ((u.toNat : Int) = 40 ∧ signB u = true) ∨ ((u.toNat : Int) = 41 ∧ signB u = true) ∨ ((u.toNat : Int) = 58 ∧ signB u = true) ∨ ((u.toNat : Int) = 61 ∧ signB u = true) ∨ ((u.toNat : Int) = 64 ∧ signB u = true) ∨ ((u.toNat : Int) = 91 ∧ signB u = true) ∨ ((u.toNat : Int) = 93 ∧ signB u = true) ∨ ((u.toNat : Int) = 123 ∧ signB u = true) ∨ ((u.toNat : Int) = 124 ∧ signB u = true) ∨ ((u.toNat : Int) = 125 ∧ signB u = true) ∨ ((u.toNat : Int) = 38 ∧ signB u = true) ∨ (¬ (u.toNat : Int) = 33 ∧ ¬ (u.toNat : Int) = 36 ∧ ¬ (u.toNat : Int) = 40 ∧ ¬ (u.toNat : Int) = 41 ∧ ¬ (u.toNat : Int) = 58 ∧ ¬ (u.toNat : Int) = 61 ∧ ¬ (u.toNat : Int) = 64 ∧ ¬ (u.toNat : Int) = 91 ∧ ¬ (u.toNat : Int) = 93 ∧ ¬ (u.toNat : Int) = 123 ∧ ¬ (u.toNat : Int) = 124 ∧ ¬ (u.toNat : Int) = 125 ∧ ¬ (u.toNat : Int) = 38 ∧ signB u = false) := by
 revert u; refine u8_all ?_; decide +kernel
theorem dots_at (s : ByteArray) (i : Nat) (hi : i < s.size) : dotsB (s.data.toList.drop i) = decide (s[i].toNat = 46 ∧ ∃ h : i + 2 < s.size, s[i + 1].toNat = 46 ∧ s[i + 2].toNat = 46) := by
 unfold dotsB; rw [Bool.eq_iff_iff]; simp only [decide_eq_true_eq]; rw [drop_get s i hi]
 by_cases h1 : i + 1 < s.size
 ·rw [drop_get s (i + 1) h1]
  by_cases h2 : i + 2 < s.size
  ·rw [drop_get s (i + 2) h2]; simp [h2]
  ·rw [drop_all s (i + 1 + 1) (by omega)]; simp [h2]
 ·rw [drop_all s (i + 1) (by omega)]; have : ¬ i + 2 < s.size := by omega
  simp [this]
theorem oneR_form (i : Nat) (P : One) : ∃ y0 y1 y2 y3 y4 y5 y6, oneR i P = .tuple #[.agg #[y0, y1, y2, y3], y4, y5, y6] ∧ ∀ u ∈ [y0, y1, y2, y3], u.oneCell' = true := by
 cases P with
 | ok k t n len => exact ⟨_, _, _, _, _, _, _, rfl, by intro u hu; simp at hu; rcases hu with rfl | rfl | rfl | rfl <;> rfl⟩
 | bad off e => exact ⟨_, _, _, _, _, _, _, rfl, by intro u hu; simp at hu; rcases hu with rfl | rfl | rfl | rfl <;> rfl⟩
set_option maxRecDepth 100000 in
set_option maxHeartbeats 40000000 in
theorem rone_any (s : ByteArray) (i : Nat) (w : World) (hs : s.size ≤ 1000000) (hi : i < s.size) :
  Calls Tryz.prog 69 #[.string s, .int .i64 i] w fun e w' => e = .returned (oneR i (oneP (s.data.toList.drop i))) ∧ Only (fun _ => False) w w' := by
 obtain ⟨P, hP⟩ := eX (oneP (s.data.toList.drop i)); rw [hP]; have hL := drop_get s i hi; have HLL := hid hL; clear hL; obtain ⟨W, hW⟩ : ∃ W, W = w.alloc (.cells #[.int .u8 0, .string ⟨#[]⟩, .int .i64 0, .int .i64 0] 109) := ⟨_, rfl⟩; have hbx : W.heap[w.heap.size]? = some (.cells [.int .u8 0, .string ⟨#[]⟩, .int .i64 0, .int .i64 0].toArray 109 (0, 0)) := by rw [hW]; exact heap_new _ _
 have hOw : Only (fun _ => False) w W := by rw [hW]; exact (Only.refl _ w).alloc _
 obtain ⟨b0, hb0⟩ := eX (w.heap.size); rw [hb0] at hbx; have HBX := hid hbx; have HOW := hid hOw; have HB0 := hid hb0; have HW := hid hW; have HP := hid hP; clear hbx hOw hP
 go_enter Tryz.func69, Tryz.ntmps69
 go_upto_region 1 with (fail)
 rw [← HW.out]
 try rw [hb0]
 clear hb0 hW HW; have L := hid (rletter_any s[i] W)
 cases hc : letB s[i]
 rotate_left
 ·rw [hc] at L; obtain ⟨r, hr⟩ := eX (runL ldB (s.data.toList.drop i)); have hrl : i + r ≤ s.size := by rcases runL_at hr with h | h <;> omega
  have HR := hid hr; have HC := hid hc; clear hr hc
  go_wp2_with fail
  refine L.out.mono ?_
  rintro e w1 ⟨rfl, rfl⟩
  go_upto_block 1 with (fail)
  clear L
  go_cut [9] from 10 to 34 (fun v w' => v = .int .i64 ((i : Int) + (r : Int)) ∧ w' = w1)
  case first =>
   go_wp2_with fail
   go_loopw [9] (fun x wr => ∃ k : Nat, x = .int .i64 (k : Int) ∧ i ≤ k ∧ k ≤ i + r ∧ wr = w1) (fun x _ => s.size - (intOf x).toNat)
   case atStart => exact ⟨i, rfl, by omega, by omega, rfl⟩
   case round =>
    obtain ⟨k, rfl, hk1, hk2, rfl⟩ := hrel
    by_cases hks : k < s.size
    ·have t1 : decide ((k : Int) < (s.size : Int)) = true := decide_eq_true (by omega); have LL := hid (rletter_any s[k] wr); have DD := hid (rdigit_any s[k] wr); have hld : k < i + r → (letB s[k] || digB s[k]) = true := fun h => run_in HR.out k hk1 h hks
     have hno : k = i + r → (letB s[k] || digB s[k]) = false := fun h => by subst h; exact run_out HR.out hks
     have HLD := hid hld; have HNO := hid hno; clear hld hno; obtain ⟨b1, hb1⟩ := eX (letB s[k]); obtain ⟨b2, hb2⟩ := eX (digB s[k]); rw [hb1] at LL HLD HNO; rw [hb2] at DD HLD HNO; clear hb1 hb2
     cases b1
     ·cases b2
      ·have hke : k = i + r := by
        have := HLD.out
        by_cases h : k < i + r
        ·have := this h; simp at this
        ·omega
       have HKE := hid hke; clear hke
       go_wp2_with fail
       refine LL.out.mono ?_
       rintro e w2 ⟨rfl, rfl⟩
       go_wp2_with fail
       refine DD.out.mono ?_
       rintro e w3 ⟨rfl, rfl⟩
       go_wp2_with fail
       go_meet
       case rel => exact ⟨by rw [HKE.out]; simp, by first | rfl | trivial⟩
      ·have hlt : k < i + r := by
        have := HNO.out
        by_cases h : k = i + r
        ·have := this h; simp at this
        ·omega
       go_wp2_with fail
       refine LL.out.mono ?_
       rintro e w2 ⟨rfl, rfl⟩
       go_wp2_with fail
       refine DD.out.mono ?_
       rintro e w3 ⟨rfl, rfl⟩
       go_wp2_with fail
       go_roundw
       case rel => exact ⟨k + 1, by simp, by omega, by omega, by first | rfl | trivial⟩
       case measure => simp [intOf]; omega
     ·have hlt : k < i + r := by
       have := HNO.out
       by_cases h : k = i + r
       ·have := this h; simp at this
       ·omega
      go_wp2_with fail
      refine LL.out.mono ?_
      rintro e w2 ⟨rfl, rfl⟩
      go_wp2_with fail
      go_roundw
      case rel => exact ⟨k + 1, by simp, by omega, by omega, by first | rfl | trivial⟩
      case measure => simp [intOf]; omega
    ·have t1 : decide ((k : Int) < (s.size : Int)) = false := decide_eq_false (by omega); have hke : k = i + r := by omega
     have HKE := hid hke; clear hke
     go_wp2_with fail
     go_meet
     case rel => exact ⟨by rw [HKE.out]; simp, by first | rfl | trivial⟩
  case rest =>
   obtain ⟨rfl, rfl⟩ := hcut
   by_cases c2 : 32 < r
   ·have t3 : decide ((i : Int) + (r : Int) - (i : Int) > 32) = true := decide_eq_true (by omega)
    go_wp2_with ((refine wpList_store_box (o := ⟨none, _, _, _, _, _⟩) rfl 109 (.tmp 4) (.tmp 39) (by rfl) b0 [.int .u8 0, .string ⟨#[]⟩, .int .i64 0, .int .i64 0] [.int .u8 0, .string ⟨#[]⟩, .int .i64 0, .int .i64 0] (by rfl) (by rfl) HBX.out (by rfl) (by kernel_rfl) (by intro u hu; simp at hu; rcases hu with rfl | rfl | rfl | rfl <;> rfl) ?_; intro w9 k1 k2))
    obtain ⟨z0, z1, z2, z3⟩ := box4 k1; have hoW : Only (fun _ => False) w w9 := HOW.out.trans' k2 (fun q hq e => by have := HB0.out; omega); have HOZ := hid hoW; clear hoW k2
    go_wp2_with fail
    have e : P = .bad 0 2 := by rw [← HP.out, oneP_at HLL.out, HR.out, if_pos HC.out, if_pos c2]
    exact bodyPost_ret (v := oneR i P) (by rw [e]; simp [oneR, tokV, results, Tryz.results69, go_sem, z0, z1, z2, z3]; try omega) rfl ⟨rfl, HOZ.out⟩
   ·have t3 : decide ((i : Int) + (r : Int) - (i : Int) > 32) = false := decide_eq_false (by omega); have htx : s.extract i (i + r) = ⟨((s.data.toList.drop i).take r).toArray⟩ := ba_eq (by rw [extract_list, Nat.add_sub_cancel_left]); have HTX := hid htx; clear htx
    go_wp2_with ((refine wpList_store_box (o := ⟨none, _, _, _, _, _⟩) rfl 109 (.tmp 4) (.tmp 45) (by rfl) b0 [.int .u8 0, .string ⟨#[]⟩, .int .i64 0, .int .i64 0] [.int .u8 1, .string (s.extract i (i + r)), .int .i64 0, .int .i64 0] (by rfl) (by rfl) HBX.out (by rfl) (by kernel_rfl) (by intro u hu; simp at hu; rcases hu with rfl | rfl | rfl | rfl <;> rfl) ?_; intro w9 k1 k2))
    obtain ⟨z0, z1, z2, z3⟩ := box4 k1; have hoW : Only (fun _ => False) w w9 := HOW.out.trans' k2 (fun q hq e => by have := HB0.out; omega); have HOZ := hid hoW; clear hoW k2
    go_wp2_with fail
    have e : P = .ok 1 ((s.data.toList.drop i).take r) 0 r := by rw [← HP.out, oneP_at HLL.out, HR.out, if_pos HC.out, if_neg c2]
    exact bodyPost_ret (v := oneR i P) (by rw [e]; simp [oneR, tokV, results, Tryz.results69, go_sem, z0, z1, z2, z3, HTX.out]; try omega) rfl ⟨rfl, HOZ.out⟩
 ·rw [hc] at L; have HC := hid hc; clear hc
  go_wp2_with fail
  refine L.out.mono ?_
  rintro e w1 ⟨rfl, rfl⟩; clear L
  by_cases c1 : (s[i].toNat : Int) = 45
  ·have t1 : decide ((s[i].toNat : Int) = 45) = true := decide_eq_true c1; have Q := hid (rnumber_any s i w1 hs hi); obtain ⟨y0, y1, y2, y3, y4, y5, y6, hy, hy1⟩ := oneR_form i (numP (s.data.toList.drop i)); rw [hy] at Q; have HY := hid hy; have HY1 := hid hy1; clear hy hy1
   go_wp2_with fail
   refine Q.out.mono ?_
   rintro e3 w3 ⟨rfl, O3⟩; have hbx3 := O3.block b0 (by have := (gE HBX.out).1; exact this) (fun h => h); rw [HBX.out] at hbx3; have hO3 : Only (fun _ => False) w w3 := HOW.out.trans O3; have HBX3 := hid hbx3; have HO3 := hid hO3; clear hbx3 hO3 O3
   go_wp2_with ((refine wpList_store_box (o := ⟨none, _, _, _, _, _⟩) rfl 109 (.tmp 4) (.tmp 57) (by rfl) b0 [.int .u8 0, .string ⟨#[]⟩, .int .i64 0, .int .i64 0] [y0, y1, y2, y3] (by rfl) (by rfl) HBX3.out (by rfl) (by kernel_rfl) HY1.out ?_; intro w9 k1 k2))
   obtain ⟨z0, z1, z2, z3⟩ := box4 k1; have hoW : Only (fun _ => False) w w9 := HO3.out.trans' k2 (fun q hq e => by have := HB0.out; omega); have HOZ := hid hoW; clear hoW k2
   go_wp2_with fail
   have e : P = numP (s.data.toList.drop i) := by rw [← HP.out, oneP_at HLL.out, if_neg (by rw [HC.out]; decide), if_pos (.inl (by omega))]
   exact bodyPost_ret (v := oneR i P) (by rw [e, HY.out]; simp [results, Tryz.results69, go_sem, z0, z1, z2, z3]) rfl ⟨rfl, HOZ.out⟩
  ·have t1 : decide ((s[i].toNat : Int) = 45) = false := decide_eq_false c1; have D := hid (rdigit_any s[i] w1)
   cases hd : digB s[i]
   rotate_left
   ·rw [hd] at D; have HD := hid hd; clear hd
    go_wp2_with fail
    refine D.out.mono ?_
    rintro e w2 ⟨rfl, rfl⟩; have Q := hid (rnumber_any s i w2 hs hi); obtain ⟨y0, y1, y2, y3, y4, y5, y6, hy, hy1⟩ := oneR_form i (numP (s.data.toList.drop i)); rw [hy] at Q; have HY := hid hy; have HY1 := hid hy1; clear hy hy1
    go_wp2_with fail
    refine Q.out.mono ?_
    rintro e3 w3 ⟨rfl, O3⟩; have hbx3 := O3.block b0 (by have := (gE HBX.out).1; exact this) (fun h => h); rw [HBX.out] at hbx3; have hO3 : Only (fun _ => False) w w3 := HOW.out.trans O3; have HBX3 := hid hbx3; have HO3 := hid hO3; clear hbx3 hO3 O3
    go_wp2_with ((refine wpList_store_box (o := ⟨none, _, _, _, _, _⟩) rfl 109 (.tmp 4) (.tmp 57) (by rfl) b0 [.int .u8 0, .string ⟨#[]⟩, .int .i64 0, .int .i64 0] [y0, y1, y2, y3] (by rfl) (by rfl) HBX3.out (by rfl) (by kernel_rfl) HY1.out ?_; intro w9 k1 k2))
    obtain ⟨z0, z1, z2, z3⟩ := box4 k1; have hoW : Only (fun _ => False) w w9 := HO3.out.trans' k2 (fun q hq e => by have := HB0.out; omega); have HOZ := hid hoW; clear hoW k2
    go_wp2_with fail
    have e : P = numP (s.data.toList.drop i) := by rw [← HP.out, oneP_at HLL.out, if_neg (by rw [HC.out]; decide), if_pos (.inr HD.out)]
    exact bodyPost_ret (v := oneR i P) (by rw [e, HY.out]; simp [results, Tryz.results69, go_sem, z0, z1, z2, z3]) rfl ⟨rfl, HOZ.out⟩
   ·rw [hd] at D; have hn45 : ¬ (s[i].toNat = 45 ∨ digB s[i] = true) := fun h => h.elim (fun h => c1 (by omega)) (fun h => by rw [hd] at h; cases h)
    have HD := hid hn45; clear hd hn45
    go_wp2_with fail
    refine D.out.mono ?_
    rintro e w2 ⟨rfl, rfl⟩; clear D
    by_cases c2 : (s[i].toNat : Int) = 34
    ·have t2 : decide ((s[i].toNat : Int) = 34) = true := decide_eq_true c2; have Q := hid (rtext_any s i w2 hs hi); obtain ⟨y0, y1, y2, y3, y4, y5, y6, hy, hy1⟩ := oneR_form i (txtP [] 1 (s.data.toList.drop (i + 1))); rw [hy] at Q; have HY := hid hy; have HY1 := hid hy1; clear hy hy1
     go_wp2_with fail
     refine Q.out.mono ?_
     rintro e3 w3 ⟨rfl, O3⟩; have hbx3 := O3.block b0 (by have := (gE HBX.out).1; exact this) (fun h => h); rw [HBX.out] at hbx3; have hO3 : Only (fun _ => False) w w3 := HOW.out.trans O3; have HBX3 := hid hbx3; have HO3 := hid hO3; clear hbx3 hO3 O3
     go_wp2_with ((refine wpList_store_box (o := ⟨none, _, _, _, _, _⟩) rfl 109 (.tmp 4) (.tmp 67) (by rfl) b0 [.int .u8 0, .string ⟨#[]⟩, .int .i64 0, .int .i64 0] [y0, y1, y2, y3] (by rfl) (by rfl) HBX3.out (by rfl) (by kernel_rfl) HY1.out ?_; intro w9 k1 k2))
     obtain ⟨z0, z1, z2, z3⟩ := box4 k1; have hoW : Only (fun _ => False) w w9 := HO3.out.trans' k2 (fun q hq e => by have := HB0.out; omega); have HOZ := hid hoW; clear hoW k2
     go_wp2_with fail
     have e : P = txtP [] 1 (s.data.toList.drop (i + 1)) := by rw [← HP.out, oneP_at HLL.out, if_neg (by rw [HC.out]; decide), if_neg HD.out, if_pos (by omega)]
     exact bodyPost_ret (v := oneR i P) (by rw [e, HY.out]; simp [results, Tryz.results69, go_sem, z0, z1, z2, z3]) rfl ⟨rfl, HOZ.out⟩
    ·have t2 : decide ((s[i].toNat : Int) = 34) = false := decide_eq_false c2; have hdt := dots_at s i hi
     by_cases c3 : (s[i].toNat : Int) = 46
     ·have t3 : decide ((s[i].toNat : Int) = 46) = true := decide_eq_true c3; have hsg : signB s[i] = false := by rw [signB_cases]; simp; omega
      by_cases c4 : i + 2 < s.size
      ·have t4 : decide ((s.size : Int) - (i : Int) ≥ 3) = true := decide_eq_true (by omega); have hb1 : decide (i + 1 < s.size) = true := decide_eq_true (by omega)
       by_cases c5 : (s[i + 1].toNat : Int) = 46
       ·have t5 : decide ((s[i + 1].toNat : Int) = 46) = true := decide_eq_true c5
        by_cases c6 : (s[i + 2].toNat : Int) = 46
        ·have t6 : decide ((s[i + 2].toNat : Int) = 46) = true := decide_eq_true c6; have HDT : dotsB (s.data.toList.drop i) = true := by rw [hdt]; exact decide_eq_true ⟨by omega, c4, by omega, by omega⟩
         have HDD := hid HDT; clear HDT hdt
         go_wp2_with ((refine wpList_store_box (o := ⟨none, _, _, _, _, _⟩) rfl 109 (.tmp 4) (.tmp 93) (by rfl) b0 [.int .u8 0, .string ⟨#[]⟩, .int .i64 0, .int .i64 0] [.int .u8 4, .string ⟨#[46, 46, 46]⟩, .int .i64 0, .int .i64 0] (by rfl) (by rfl) HBX.out (by rfl) (by kernel_rfl) (by intro u hu; simp at hu; rcases hu with rfl | rfl | rfl | rfl <;> rfl) ?_; intro w9 k1 k2))
         obtain ⟨z0, z1, z2, z3⟩ := box4 k1; have hoW : Only (fun _ => False) w w9 := HOW.out.trans' k2 (fun q hq e => by have := HB0.out; omega); have HOZ := hid hoW; clear hoW k2
         go_wp2_with fail
         have e : P = .ok 4 [46, 46, 46] 0 3 := by rw [← HP.out, oneP_at HLL.out, if_neg (by rw [HC.out]; decide), if_neg HD.out, if_neg (by omega), if_pos HDD.out]
         exact bodyPost_ret (v := oneR i P) (by rw [e]; simp [oneR, tokV, results, Tryz.results69, go_sem, z0, z1, z2, z3]; try omega) rfl ⟨rfl, HOZ.out⟩
        ·have t6 : decide ((s[i + 2].toNat : Int) = 46) = false := decide_eq_false c6; have HDT : ¬ dotsB (s.data.toList.drop i) = true := by rw [hdt]; simp; intro _ _ _; omega
         have HDD := hid HDT; have HSG := hid hsg; clear HDT hdt hsg
         go_wp2_with ((refine wpList_store_box (o := ⟨none, _, _, _, _, _⟩) rfl 109 (.tmp 4) (.tmp 96) (by rfl) b0 [.int .u8 0, .string ⟨#[]⟩, .int .i64 0, .int .i64 0] [.int .u8 0, .string ⟨#[]⟩, .int .i64 0, .int .i64 0] (by rfl) (by rfl) HBX.out (by rfl) (by kernel_rfl) (by intro u hu; simp at hu; rcases hu with rfl | rfl | rfl | rfl <;> rfl) ?_; intro w9 k1 k2))
         obtain ⟨z0, z1, z2, z3⟩ := box4 k1; have hoW : Only (fun _ => False) w w9 := HOW.out.trans' k2 (fun q hq e => by have := HB0.out; omega); have HOZ := hid hoW; clear hoW k2
         go_wp2_with fail
         have e : P = .bad 0 4 := by rw [← HP.out, oneP_at HLL.out, if_neg (by rw [HC.out]; decide), if_neg HD.out, if_neg (by omega), if_neg HDD.out, if_neg (by rw [HSG.out]; decide)]
         exact bodyPost_ret (v := oneR i P) (by rw [e]; simp [oneR, tokV, results, Tryz.results69, go_sem, z0, z1, z2, z3]; try omega) rfl ⟨rfl, HOZ.out⟩
       ·have t5 : decide ((s[i + 1].toNat : Int) = 46) = false := decide_eq_false c5; have HDT : ¬ dotsB (s.data.toList.drop i) = true := by rw [hdt]; simp; intro _ _ h; omega
        have HDD := hid HDT; have HSG := hid hsg; clear HDT hdt hsg
        go_wp2_with ((refine wpList_store_box (o := ⟨none, _, _, _, _, _⟩) rfl 109 (.tmp 4) (.tmp 96) (by rfl) b0 [.int .u8 0, .string ⟨#[]⟩, .int .i64 0, .int .i64 0] [.int .u8 0, .string ⟨#[]⟩, .int .i64 0, .int .i64 0] (by rfl) (by rfl) HBX.out (by rfl) (by kernel_rfl) (by intro u hu; simp at hu; rcases hu with rfl | rfl | rfl | rfl <;> rfl) ?_; intro w9 k1 k2))
        obtain ⟨z0, z1, z2, z3⟩ := box4 k1; have hoW : Only (fun _ => False) w w9 := HOW.out.trans' k2 (fun q hq e => by have := HB0.out; omega); have HOZ := hid hoW; clear hoW k2
        go_wp2_with fail
        have e : P = .bad 0 4 := by rw [← HP.out, oneP_at HLL.out, if_neg (by rw [HC.out]; decide), if_neg HD.out, if_neg (by omega), if_neg HDD.out, if_neg (by rw [HSG.out]; decide)]
        exact bodyPost_ret (v := oneR i P) (by rw [e]; simp [oneR, tokV, results, Tryz.results69, go_sem, z0, z1, z2, z3]; try omega) rfl ⟨rfl, HOZ.out⟩
      ·have t4 : decide ((s.size : Int) - (i : Int) ≥ 3) = false := decide_eq_false (by omega); have HDT : ¬ dotsB (s.data.toList.drop i) = true := by rw [hdt]; simp; intro _ h; omega
       have HDD := hid HDT; have HSG := hid hsg; clear HDT hdt hsg
       go_wp2_with ((refine wpList_store_box (o := ⟨none, _, _, _, _, _⟩) rfl 109 (.tmp 4) (.tmp 96) (by rfl) b0 [.int .u8 0, .string ⟨#[]⟩, .int .i64 0, .int .i64 0] [.int .u8 0, .string ⟨#[]⟩, .int .i64 0, .int .i64 0] (by rfl) (by rfl) HBX.out (by rfl) (by kernel_rfl) (by intro u hu; simp at hu; rcases hu with rfl | rfl | rfl | rfl <;> rfl) ?_; intro w9 k1 k2))
       obtain ⟨z0, z1, z2, z3⟩ := box4 k1; have hoW : Only (fun _ => False) w w9 := HOW.out.trans' k2 (fun q hq e => by have := HB0.out; omega); have HOZ := hid hoW; clear hoW k2
       go_wp2_with fail
       have e : P = .bad 0 4 := by rw [← HP.out, oneP_at HLL.out, if_neg (by rw [HC.out]; decide), if_neg HD.out, if_neg (by omega), if_neg HDD.out, if_neg (by rw [HSG.out]; decide)]
       exact bodyPost_ret (v := oneR i P) (by rw [e]; simp [oneR, tokV, results, Tryz.results69, go_sem, z0, z1, z2, z3]; try omega) rfl ⟨rfl, HOZ.out⟩
     ·have t3 : decide ((s[i].toNat : Int) = 46) = false := decide_eq_false c3; have HDT : ¬ dotsB (s.data.toList.drop i) = true := by rw [hdt]; simp; omega
      have HDD := hid HDT; clear HDT hdt; obtain ⟨sb, hsb⟩ := eX (signB s[i]); have HSB := hid hsb; clear hsb
      go_upto_region 17 with (fail)
      go_cut [98] from 10 to 148 (fun v w' => v = .bool sb ∧ w' = w2)
      case first =>
       rcases signB_or s[i] with ⟨hn, hq⟩ | ⟨hn, hq⟩ | ⟨hn, hq⟩ | ⟨hn, hq⟩ | ⟨hn, hq⟩ | ⟨hn, hq⟩ | ⟨hn, hq⟩ | ⟨hn, hq⟩ | ⟨hn, hq⟩ | ⟨hn, hq⟩ | ⟨hn, hq⟩ | ⟨hn, hq⟩ | ⟨hn, hq⟩ | ⟨n0, n1, n2, n3, n4, n5, n6, n7, n8, n9, n10, n11, n12, hq⟩
       all_goals (
        rw [HSB.out] at hq; subst hq; clear HSB
        go_wp2_with fail
        go_meet
        case rel => exact ⟨by simp [*], by first | rfl | trivial⟩)
      case rest =>
       obtain ⟨rfl, rfl⟩ := hcut
       cases sb
       rotate_left
       ·have hone := one_at s i hi; have HONE := hid hone; clear hone
        go_wp2_with ((refine wpList_store_box (o := ⟨none, _, _, _, _, _⟩) rfl 109 (.tmp 4) (.tmp 154) (by rfl) b0 [.int .u8 0, .string ⟨#[]⟩, .int .i64 0, .int .i64 0] [.int .u8 4, .string (s.extract i (i + 1)), .int .i64 0, .int .i64 0] (by rfl) (by rfl) HBX.out (by rfl) (by kernel_rfl) (by intro u hu; simp at hu; rcases hu with rfl | rfl | rfl | rfl <;> rfl) ?_; intro w9 k1 k2))
        obtain ⟨z0, z1, z2, z3⟩ := box4 k1; have hoW : Only (fun _ => False) w w9 := HOW.out.trans' k2 (fun q hq e => by have := HB0.out; omega); have HOZ := hid hoW; clear hoW k2
        go_wp2_with fail
        have e : P = .ok 4 [s[i]] 0 1 := by rw [← HP.out, oneP_at HLL.out, if_neg (by rw [HC.out]; decide), if_neg HD.out, if_neg (by omega), if_neg HDD.out, if_pos HSB.out]
        exact bodyPost_ret (v := oneR i P) (by rw [e]; simp [oneR, tokV, results, Tryz.results69, go_sem, z0, z1, z2, z3, HONE.out]; try omega) rfl ⟨rfl, HOZ.out⟩
       ·skip
        go_wp2_with ((refine wpList_store_box (o := ⟨none, _, _, _, _, _⟩) rfl 109 (.tmp 4) (.tmp 157) (by rfl) b0 [.int .u8 0, .string ⟨#[]⟩, .int .i64 0, .int .i64 0] [.int .u8 0, .string ⟨#[]⟩, .int .i64 0, .int .i64 0] (by rfl) (by rfl) HBX.out (by rfl) (by kernel_rfl) (by intro u hu; simp at hu; rcases hu with rfl | rfl | rfl | rfl <;> rfl) ?_; intro w9 k1 k2))
        obtain ⟨z0, z1, z2, z3⟩ := box4 k1; have hoW : Only (fun _ => False) w w9 := HOW.out.trans' k2 (fun q hq e => by have := HB0.out; omega); have HOZ := hid hoW; clear hoW k2
        go_wp2_with fail
        have e : P = .bad 0 4 := by rw [← HP.out, oneP_at HLL.out, if_neg (by rw [HC.out]; decide), if_neg HD.out, if_neg (by omega), if_neg HDD.out, if_neg (by rw [HSB.out]; decide)]
        exact bodyPost_ret (v := oneR i P) (by rw [e]; simp [oneR, tokV, results, Tryz.results69, go_sem, z0, z1, z2, z3]; try omega) rfl ⟨rfl, HOZ.out⟩
end Go.Proofs.YtnkpoddbbdmipaaGreatDoor
