/- . -/
import Derived.Test.YtnkpoddbbdmipaaGreatDoorTApTrw
namespace Go.Proofs.YtnkpoddbbdmipaaGreatDoor
open Go Go.RowKit
open Go.Lib (hid)
set_option linter.unusedVariables false
set_option linter.unusedSimpArgs false
def oneR (i : Nat) : One → Value
 | .ok k t n len => .tuple #[tokV k t n 0, .int .i64 ((i : Int) + (len : Int)), .int .i64 0, .int .i64 0]
 | .bad off e => .tuple #[tokV 0 [] 0 0, .int .i64 0, .int .i64 ((i : Int) + (off : Int)), .int .i64 (e : Int)]
def decM (D : List UInt8) (j : Nat) : Nat := decV 0 (D.take (min j 18))
theorem decM_zero (D : List UInt8) : decM D 0 = 0 := by unfold decM; simp [decV_nil]
theorem decM_succ {D : List UInt8} {j : Nat} (h : j < 18) (hj : j < D.length) : decM D (j + 1) = decM D j * 10 + (D[j].toNat - 48) := by
 unfold decM; rw [show min (j + 1) 18 = j + 1 from by omega, show min j 18 = j from by omega, List.take_succ_eq_append_getElem hj, decV_snoc]
theorem decM_same {D : List UInt8} {j : Nat} (h : 18 ≤ j) : decM D (j + 1) = decM D j := by
 unfold decM; rw [show min (j + 1) 18 = 18 from by omega, show min j 18 = 18 from by omega]
theorem decM_lt {D : List UInt8} {j r : Nat} (hr : runL digB D = r) (hj : j ≤ r) (h : j ≤ 17) : decM D j < 100000000000000000 := by
 unfold decM; have hall : ∀ x ∈ D.take (min j 18), digB x = true := fun x hx => by
  have : x ∈ D.take (runL digB D) := by
   have e : D.take (min j 18) = (D.take (runL digB D)).take (min j 18) := by rw [List.take_take]; congr 1; omega
   rw [e] at hx; exact List.mem_of_mem_take hx
  exact runL_take_all _ x this
 have h1 := decV_lt _ 0 0 hall (by decide); have h2 : (D.take (min j 18)).length ≤ 17 := by rw [List.length_take]; omega
 have h3 : 10 ^ ((D.take (min j 18)).length + 0) ≤ 10 ^ 17 := Nat.pow_le_pow_right (by decide) (by omega); have h4 : 10 ^ 17 = 100000000000000000 := by decide
 omega
theorem decM_lt18 {D : List UInt8} {j r : Nat} (hr : runL digB D = r) (hj : j ≤ r) : decM D j < 1000000000000000000 := by
 unfold decM; have hall : ∀ x ∈ D.take (min j 18), digB x = true := fun x hx => by
  have : x ∈ D.take (runL digB D) := by
   have e : D.take (min j 18) = (D.take (runL digB D)).take (min j 18) := by rw [List.take_take]; congr 1; omega
   rw [e] at hx; exact List.mem_of_mem_take hx
  exact runL_take_all _ x this
 have h1 := decV_lt _ 0 0 hall (by decide); have h2 : (D.take (min j 18)).length ≤ 18 := by rw [List.length_take]; omega
 have h3 : 10 ^ ((D.take (min j 18)).length + 0) ≤ 10 ^ 18 := Nat.pow_le_pow_right (by decide) (by omega); have h4 : 10 ^ 18 = 1000000000000000000 := by decide
 omega
theorem runL_at {f : UInt8 → Bool} {s : ByteArray} {d r : Nat} (hr : runL f (s.data.toList.drop d) = r) : d + r ≤ s.size ∨ (r = 0) := by
 have := runL_le f (s.data.toList.drop d); rw [hr, List.length_drop] at this; have e : s.data.toList.length = s.size := rfl; omega
theorem run_in {f : UInt8 → Bool} {s : ByteArray} {d r : Nat} (hr : runL f (s.data.toList.drop d) = r) (k : Nat) (h1 : d ≤ k) (h2 : k < d + r) (hk : k < s.size) : f s[k] = true := by
 have := runL_all (f := f) (s.data.toList.drop d) (k - d) (by rw [List.length_drop]; have e : s.data.toList.length = s.size := rfl; omega) (by omega); simp only [List.getElem_drop] at this; have e : d + (k - d) = k := by omega
 simp only [e] at this; exact this
theorem run_out {f : UInt8 → Bool} {s : ByteArray} {d r : Nat} (hr : runL f (s.data.toList.drop d) = r) (hk : d + r < s.size) : f s[d + r] = false := by
 have := runL_stop (f := f) (s.data.toList.drop d) (by rw [hr, List.length_drop]; have e : s.data.toList.length = s.size := rfl; omega); simp only [hr, List.getElem_drop] at this; exact this
set_option maxRecDepth 100000 in
set_option maxHeartbeats 4000000 in
theorem rnumber_any (s : ByteArray) (i : Nat) (w : World) (hs : s.size ≤ 1000000) (hi : i < s.size) :
  Calls Tryz.prog 91 #[.string s, .int .i64 i] w fun e w' => e = .returned (oneR i (numP (s.data.toList.drop i))) ∧ Only (fun _ => False) w w' := by
 obtain ⟨f, hf⟩ : ∃ f, numFrom (s.data.toList.drop i) = f := ⟨_, rfl⟩; have hf1 : f ≤ 1 := by rw [← hf]; exact numFrom_le _
 obtain ⟨d, hd⟩ : ∃ d, i + f = d := ⟨_, rfl⟩; obtain ⟨r, hr⟩ : ∃ r, runL digB (s.data.toList.drop d) = r := ⟨_, rfl⟩; have hds : d ≤ s.size := by omega
 have hrl : d + r ≤ s.size := by rcases runL_at hr with h | h <;> omega
 obtain ⟨W, hW⟩ : ∃ W, W = w.alloc (.cells #[.int .u8 0, .string ⟨#[]⟩, .int .i64 0, .int .i64 0] 109) := ⟨_, rfl⟩; have hm : (f = 1 ∧ (s[i].toNat : Int) = 45) ∨ (f = 0 ∧ (s[i].toNat : Int) ≠ 45) := by
  rw [← hf]; unfold numFrom; have e : (s.data.toList.drop i).head?.map (·.toNat) = some s[i].toNat := by
   rw [drop_get s i hi]; rfl
  rw [e]
  by_cases h : s[i].toNat = 45
  ·left; exact ⟨by rw [if_pos (by rw [h])], by omega⟩
  ·right; exact ⟨by rw [if_neg (by simpa using h)], by omega⟩
 have hr' : runL digB ((s.data.toList.drop i).drop f) = r := by rw [List.drop_drop, hd]; exact hr
 obtain ⟨D, hD⟩ : ∃ D, s.data.toList.drop d = D := ⟨_, rfl⟩; have hDl : D.length = s.size - d := by rw [← hD, List.length_drop]; rfl
 have HF := hid hf; have HR := hid hr; have HM := hid hm; have HR' := hid hr'; have HDD := hid hD; have HDI := hid hd; have HDL := hid hDl; clear hf hr hm hr' hD hDl; have hdi : i ≤ d := by omega
 have hdi2 : d ≤ i + 1 := by omega
 clear hd; obtain ⟨P, hP⟩ : ∃ P, numP (s.data.toList.drop i) = P := ⟨_, rfl⟩; rw [hP]; have HP := hid hP; have HWW := hid hW; clear hP
 go_enter Tryz.func91, Tryz.ntmps91; obtain ⟨mb, hmb⟩ : ∃ mb, decide (f = 1) = mb := ⟨_, rfl⟩; have HMB := hid hmb; clear hmb
 go_upto_if 17 with (fail)
 go_cut [8, 9] from 12 to 19 (fun v v9 w' => v = .int .i64 (d : Int) ∧ v9 = .bool mb ∧ w' = W)
 case first =>
  rcases HM.out with ⟨h1, h2⟩ | ⟨h1, h2⟩
  ·have t1 : decide ((s[i].toNat : Int) = 45) = true := decide_eq_true h2
   go_wp2_with fail
   go_meet
   case rel => exact ⟨by have := HDI.out; congr 1; omega, by rw [← HMB.out, decide_eq_true h1]; first | rfl | simp [h2], HWW.out.symm⟩
  ·have t1 : decide ((s[i].toNat : Int) = 45) = false := decide_eq_false h2
   go_wp2_with fail
   go_meet
   case rel => exact ⟨by have := HDI.out; congr 1; omega, by rw [← HMB.out, decide_eq_false (by omega)]; first | rfl | simp [h2], HWW.out.symm⟩
 case rest =>
  obtain ⟨rfl, rfl, rfl⟩ := hcut; have hbx : wc.heap[w.heap.size]? = some (.cells [.int .u8 0, .string ⟨#[]⟩, .int .i64 0, .int .i64 0].toArray 109 (0, 0)) := by rw [HWW.out]; exact heap_new _ _
  have hOw : Only (fun _ => False) w wc := by rw [HWW.out]; exact (Only.refl _ w).alloc _
  obtain ⟨b0, hb0⟩ : ∃ b0, w.heap.size = b0 := ⟨_, rfl⟩; rw [hb0] at hbx; have HBX := hid hbx; have HOW := hid hOw; have HB0 := hid hb0; clear hbx hOw hW HWW; simp only [hb0]; clear hb0; have hv18 := decM_lt18 (D := D) (j := r) (r := r) (by rw [← HDD.out]; exact HR.out) (by omega); have hdv : r ≤ 18 → decM D r = decV 0 (D.take r) := fun h => by unfold decM; rw [show min r 18 = r from by omega]
  obtain ⟨v, hvv⟩ : ∃ v, decM D r = v := ⟨_, rfl⟩; have HVV := hid hvv; rw [hvv] at hv18 hdv; have HDV := hid hdv; clear hdv hvv
  go_upto_block 0 with (fail)
  go_cut [8, 11] from 12 to 44 (fun v8 v11 w' => v8 = .int .i64 ((d : Int) + (r : Int)) ∧ v11 = .int .i64 (v : Int) ∧ w' = wc)
  case first =>
   go_wp2_with fail
   go_loopw [8, 11] (fun x y wr => ∃ k : Nat, x = .int .i64 (k : Int) ∧ d ≤ k ∧ k ≤ d + r ∧ y = .int .i64 (decM D (k - d) : Int) ∧ wr = wc) (fun x _ _ => s.size - (intOf x).toNat)
   case atStart => exact ⟨d, rfl, by omega, by omega, by rw [Nat.sub_self, decM_zero]; rfl, rfl⟩
   case round =>
    obtain ⟨k, rfl, hk1, hk2, rfl, rfl⟩ := hrel
    by_cases hlt : k < d + r
    ·have hks : k < s.size := by omega
     have t1 : decide ((k : Int) < (s.size : Int)) = true := decide_eq_true (by omega); have hdg := run_in HR.out k hk1 hlt hks; have hbd := dig_bd hdg; have hc1 : 48 ≤ (s[k].toNat : Int) := by omega
     have hc2 : (s[k].toNat : Int) ≤ 57 := by omega
     have C := hid (rdigit_any s[k] wr); rw [hdg] at C; clear hdg hbd
     by_cases h18 : k - d < 18
     ·have t2 : decide ((k : Int) - (d : Int) < 18) = true := decide_eq_true (by omega); have hv := decM_lt (D := D) (r := r) (j := k - d) (by rw [← HDD.out]; exact HR.out) (by omega) (by omega); have hsu : (decM D (k - d + 1) : Int) = (decM D (k - d) : Int) * 10 + ((s[k].toNat : Int) - 48) := by
       have hdl : k - d < D.length := by rw [HDL.out]; omega
       rw [decM_succ h18 hdl]; have e : D[k - d] = s[k] := by
        have := HDD.out; subst this; simp only [List.getElem_drop]
        congr 1; omega
       rw [e]; omega
      have HSU := hid hsu; clear hsu; obtain ⟨v, hvv⟩ : ∃ v, decM D (k - d) = v := ⟨_, rfl⟩; rw [hvv] at hv HSU ⊢; clear hvv
      go_wp2_with fail
      refine C.out.mono ?_
      rintro e w1 ⟨rfl, rfl⟩
      go_wp2_with fail
      go_roundw
      case rel => exact ⟨k + 1, by simp, by omega, by omega, by rw [show k + 1 - d = k - d + 1 from by omega, HSU.out], by first | rfl | trivial⟩
      case measure => simp [intOf]; omega
     ·have t2 : decide ((k : Int) - (d : Int) < 18) = false := decide_eq_false (by omega); have hsu := decM_same (D := D) (j := k - d) (by omega); have HSU := hid hsu; clear hsu; obtain ⟨v, hvv⟩ : ∃ v, decM D (k - d) = v := ⟨_, rfl⟩; rw [hvv] at HSU ⊢; clear hvv
      go_wp2_with fail
      refine C.out.mono ?_
      rintro e w1 ⟨rfl, rfl⟩
      go_wp2_with fail
      go_roundw
      case rel => exact ⟨k + 1, by simp, by omega, by omega, by rw [show k + 1 - d = k - d + 1 from by omega, HSU.out], by first | rfl | trivial⟩
      case measure => simp [intOf]; omega
    ·have hke : k = d + r := by omega
     subst hke; rw [show d + r - d = r from by omega, HVV.out]
     by_cases hks : d + r < s.size
     ·have t1 : decide ((d : Int) + (r : Int) < (s.size : Int)) = true := decide_eq_true (by omega); have C := hid (rdigit_any s[d + r] wr); rw [run_out HR.out hks] at C
      go_wp2_with fail
      refine C.out.mono ?_
      rintro e w1 ⟨rfl, rfl⟩
      go_wp2_with fail
      go_meet
      case rel => exact ⟨by simp, rfl, by first | rfl | trivial⟩
     ·have t1 : decide ((d : Int) + (r : Int) < (s.size : Int)) = false := decide_eq_false (by omega)
      go_wp2_with fail
      go_meet
      case rel => exact ⟨by simp, rfl, by first | rfl | trivial⟩
  case rest =>
   obtain ⟨rfl, rfl, rfl⟩ := hcut
   by_cases h1 : r = 0
   ·have t2 : decide ((d : Int) + (r : Int) = (d : Int)) = true := decide_eq_true (by omega)
    go_wp2_with ((refine wpList_store_box (o := ⟨none, _, _, _, _, _⟩) rfl 109 (.tmp 4) (.tmp 49) (by rfl) b0 [.int .u8 0, .string ⟨#[]⟩, .int .i64 0, .int .i64 0] [.int .u8 0, .string ⟨#[]⟩, .int .i64 0, .int .i64 0] (by rfl) (by rfl) HBX.out (by rfl) (by kernel_rfl) (by intro u hu; simp at hu; rcases hu with rfl | rfl | rfl | rfl <;> rfl) ?_; intro w9 k1 k2))
    obtain ⟨z0, z1, z2, z3⟩ := box4 k1; have hoW : Only (fun _ => False) w w9 := HOW.out.trans' k2 (fun q hq e => by have := HB0.out; omega); have HOZ := hid hoW; clear hoW k2
    go_wp2_with fail
    have e : P = .bad f 4 := by rw [← HP.out]; rw [numP_at HF.out HR'.out]; rw [if_pos (by omega), h1, Nat.add_zero]
    have hd2 := HDI.out; exact bodyPost_ret (v := oneR i P) (by rw [e]; simp [oneR, tokV, results, Tryz.results91, go_sem, z0, z1, z2, z3]; try omega) rfl ⟨rfl, HOZ.out⟩
   have t2 : decide ((d : Int) + (r : Int) = (d : Int)) = false := decide_eq_false (by omega); have hds2 : d < s.size := by omega
   have hsf : (s.data.toList.drop i).getD f 0 = s[d] := by have := HDI.out; subst this; rw [List.getD_eq_getElem?_getD, List.getElem?_drop, List.getElem?_eq_getElem (show i + f < s.data.toList.length from hds2)]; rfl
   have HSF := hid hsf; clear hsf; obtain ⟨b7, hb7⟩ : ∃ b7, decide (s[d].toNat = 48 ∧ 1 < r) = b7 := ⟨_, rfl⟩; have HB7 := hid hb7; clear hb7
   go_upto_region 13 with (fail)
   go_cut [51] from 12 to 61 (fun v w' => v = .bool b7 ∧ w' = wc)
   case first =>
    have hb := HB7.out
    by_cases h2 : (s[d].toNat : Int) = 48
    ·have u2 : decide ((s[d].toNat : Int) = 48) = true := decide_eq_true h2
     by_cases h3 : 1 < r
     ·have u3 : decide ((d : Int) + (r : Int) > (d : Int) + 1) = true := decide_eq_true (by omega)
      go_wp2_with fail
      go_meet
      case rel => exact ⟨by rw [← hb]; first | (rw [decide_eq_true (p := s[d].toNat = 48 ∧ 1 < r) ⟨by omega, by omega⟩]; simp; omega) | (rw [decide_eq_false (p := s[d].toNat = 48 ∧ 1 < r) (fun h => by omega)]; simp; omega), rfl⟩
     ·have u3 : decide ((d : Int) + (r : Int) > (d : Int) + 1) = false := decide_eq_false (by omega)
      go_wp2_with fail
      go_meet
      case rel => exact ⟨by rw [← hb]; first | (rw [decide_eq_true (p := s[d].toNat = 48 ∧ 1 < r) ⟨by omega, by omega⟩]; simp; omega) | (rw [decide_eq_false (p := s[d].toNat = 48 ∧ 1 < r) (fun h => by omega)]; simp; omega), rfl⟩
    ·have u2 : decide ((s[d].toNat : Int) = 48) = false := decide_eq_false h2
     go_wp2_with fail
     go_meet
     case rel => exact ⟨by rw [← hb]; rw [decide_eq_false (fun h => by omega)], rfl⟩
   case rest =>
    obtain ⟨rfl, rfl⟩ := hcut
    cases b7
    rotate_left
    ·skip
     go_wp2_with ((refine wpList_store_box (o := ⟨none, _, _, _, _, _⟩) rfl 109 (.tmp 4) (.tmp 62) (by rfl) b0 [.int .u8 0, .string ⟨#[]⟩, .int .i64 0, .int .i64 0] [.int .u8 0, .string ⟨#[]⟩, .int .i64 0, .int .i64 0] (by rfl) (by rfl) HBX.out (by rfl) (by kernel_rfl) (by intro u hu; simp at hu; rcases hu with rfl | rfl | rfl | rfl <;> rfl) ?_; intro w9 k1 k2))
     obtain ⟨z0, z1, z2, z3⟩ := box4 k1; have hoW : Only (fun _ => False) w w9 := HOW.out.trans' k2 (fun q hq e => by have := HB0.out; omega); have HOZ := hid hoW; clear hoW k2
     go_wp2_with fail
     have e : P = .bad (f + 1) 4 := by rw [← HP.out]; rw [numP_at HF.out HR'.out]; rw [if_neg (by omega), HSF.out]; have := of_decide_eq_true HB7.out; rw [if_pos (by omega)]
     have hd2 := HDI.out; exact bodyPost_ret (v := oneR i P) (by rw [e]; simp [oneR, tokV, results, Tryz.results91, go_sem, z0, z1, z2, z3]; try omega) rfl ⟨rfl, HOZ.out⟩
    have hb7 := of_decide_eq_false HB7.out; obtain ⟨b9, hb9⟩ : ∃ b9, decide (f + r < (s.data.toList.drop i).length ∧ (letB ((s.data.toList.drop i).getD (f + r) 0) = true ∨ ((s.data.toList.drop i).getD (f + r) 0).toNat = 46)) = b9 := ⟨_, rfl⟩; have HB9 := hid hb9; have HB7' := hid hb7; clear hb9 hb7; have hll : (s.data.toList.drop i).length = s.size - i := by rw [List.length_drop]; rfl
    have HLL := hid hll; clear hll
    go_upto_region 15 with (fail)
    go_cut [65] from 12 to 81 (fun v w' => v = .bool b9 ∧ w' = wc)
    case first =>
     have hb := HB9.out; have hlen := HLL.out; have hd2 := HDI.out; rw [hlen] at hb
     by_cases h2 : d + r < s.size
     ·have u2 : decide ((d : Int) + (r : Int) < (s.size : Int)) = true := decide_eq_true (by omega); have hsn : (s.data.toList.drop i).getD (f + r) 0 = s[d + r] := by subst hd2; rw [List.getD_eq_getElem?_getD, List.getElem?_drop, ← Nat.add_assoc, List.getElem?_eq_getElem (show i + f + r < s.data.toList.length from h2)]; rfl
      rw [hsn] at hb; have L := hid (rletter_any s[d + r] wc); have HD2 := hid hd2; have HLE := hid hlen; have HB := hid hb; clear hd2 hlen hb hsn
      cases hL : letB s[d + r]
      ·rw [hL] at L; have HL := hid hL; clear hL
       go_wp2_with fail
       refine L.out.mono ?_
       rintro e w2 ⟨rfl, rfl⟩
       by_cases h3 : (s[d + r].toNat : Int) = 46
       ·have u3 : decide ((s[d + r].toNat : Int) = 46) = true := decide_eq_true h3
        go_wp2_with fail
        go_meet
        case rel => exact ⟨by have := HD2.out; rw [← HB.out, decide_eq_true ⟨by omega, .inr (by omega)⟩], rfl⟩
       ·have u3 : decide ((s[d + r].toNat : Int) = 46) = false := decide_eq_false h3
        go_wp2_with fail
        go_meet
        case rel => exact ⟨by rw [← HB.out, decide_eq_false (fun h => h.2.elim (fun h => by rw [HL.out] at h; cases h) (fun h => h3 (by omega)))]; simp [h3], rfl⟩
      ·rw [hL] at L; have HL := hid hL; clear hL
       go_wp2_with fail
       refine L.out.mono ?_
       rintro e w2 ⟨rfl, rfl⟩
       go_wp2_with fail
       go_meet
       case rel => exact ⟨by have := HD2.out; rw [← HB.out, decide_eq_true ⟨by omega, .inl HL.out⟩], rfl⟩
     ·have u2 : decide ((d : Int) + (r : Int) < (s.size : Int)) = false := decide_eq_false (by omega); have HB := hid hb; have HD2 := hid hd2; clear hb hd2 hlen
      go_wp2_with fail
      go_meet
      case rel => exact ⟨by rw [← HB.out, decide_eq_false (fun h => h2 (by have := h.1; have := HD2.out; omega))], rfl⟩
    case rest =>
     obtain ⟨rfl, rfl⟩ := hcut
     cases b9
     rotate_left
     ·skip
      go_wp2_with ((refine wpList_store_box (o := ⟨none, _, _, _, _, _⟩) rfl 109 (.tmp 4) (.tmp 82) (by rfl) b0 [.int .u8 0, .string ⟨#[]⟩, .int .i64 0, .int .i64 0] [.int .u8 0, .string ⟨#[]⟩, .int .i64 0, .int .i64 0] (by rfl) (by rfl) HBX.out (by rfl) (by kernel_rfl) (by intro u hu; simp at hu; rcases hu with rfl | rfl | rfl | rfl <;> rfl) ?_; intro w9 k1 k2))
      obtain ⟨z0, z1, z2, z3⟩ := box4 k1; have hoW : Only (fun _ => False) w w9 := HOW.out.trans' k2 (fun q hq e => by have := HB0.out; omega); have HOZ := hid hoW; clear hoW k2
      go_wp2_with fail
      have e : P = .bad (f + r) 4 := by rw [← HP.out]; rw [numP_at HF.out HR'.out]; rw [if_neg (by omega), HSF.out, if_neg (by have := HB7'.out; omega), if_pos (of_decide_eq_true HB9.out)]
      have hd2 := HDI.out; exact bodyPost_ret (v := oneR i P) (by rw [e]; simp [oneR, tokV, results, Tryz.results91, go_sem, z0, z1, z2, z3]; try omega) rfl ⟨rfl, HOZ.out⟩
     by_cases h4 : 18 < r
     ·have t4 : decide ((d : Int) + (r : Int) - (d : Int) > 18) = true := decide_eq_true (by omega)
      go_wp2_with ((refine wpList_store_box (o := ⟨none, _, _, _, _, _⟩) rfl 109 (.tmp 4) (.tmp 89) (by rfl) b0 [.int .u8 0, .string ⟨#[]⟩, .int .i64 0, .int .i64 0] [.int .u8 0, .string ⟨#[]⟩, .int .i64 0, .int .i64 0] (by rfl) (by rfl) HBX.out (by rfl) (by kernel_rfl) (by intro u hu; simp at hu; rcases hu with rfl | rfl | rfl | rfl <;> rfl) ?_; intro w9 k1 k2))
      obtain ⟨z0, z1, z2, z3⟩ := box4 k1; have hoW : Only (fun _ => False) w w9 := HOW.out.trans' k2 (fun q hq e => by have := HB0.out; omega); have HOZ := hid hoW; clear hoW k2
      go_wp2_with fail
      have e : P = .bad 0 1 := by rw [← HP.out]; rw [numP_at HF.out HR'.out]; rw [if_neg (by omega), HSF.out, if_neg (by have := HB7'.out; omega), if_neg (of_decide_eq_false HB9.out), if_pos h4]
      exact bodyPost_ret (v := oneR i P) (by rw [e]; simp [oneR, tokV, results, Tryz.results91, go_sem, z0, z1, z2, z3]; try omega) rfl ⟨rfl, HOZ.out⟩
     have t4 : decide ((d : Int) + (r : Int) - (d : Int) > 18) = false := decide_eq_false (by omega); have hdv := HDV.out (by omega); have e : P = .ok 2 ((s.data.toList.drop i).take (f + r)) ((if f = 1 then -1 else 1) * (v : Int)) (f + r) := by rw [← HP.out]; rw [numP_at HF.out HR'.out]; rw [if_neg (by omega), HSF.out, if_neg (by have := HB7'.out; omega), if_neg (of_decide_eq_false HB9.out), if_neg h4, List.drop_drop, HDI.out, HDD.out, ← hdv]
     have E := hid e; clear e hdv; have htx : s.extract i (d + r) = ⟨((s.data.toList.drop i).take (f + r)).toArray⟩ := ba_eq (by rw [extract_list]; congr 1; have := HDI.out; omega); have HTX := hid htx; clear htx
     cases mb
     rotate_left
     ·skip
      go_wp2_with ((refine wpList_store_box (o := ⟨none, _, _, _, _, _⟩) rfl 109 (.tmp 4) (.tmp 99) (by rfl) b0 [.int .u8 0, .string ⟨#[]⟩, .int .i64 0, .int .i64 0] [.int .u8 2, .string (s.extract i (d + r)), .int .i64 (-(v : Int)), .int .i64 0] (by rfl) (by rfl) HBX.out (by rfl) (by kernel_rfl) (by intro u hu; simp at hu; rcases hu with rfl | rfl | rfl | rfl <;> rfl) ?_; intro w9 k1 k2))
      obtain ⟨z0, z1, z2, z3⟩ := box4 k1; have hoW : Only (fun _ => False) w w9 := HOW.out.trans' k2 (fun q hq e => by have := HB0.out; omega); have HOZ := hid hoW; clear hoW k2
      go_wp2_with fail
      have e : P = .ok 2 ((s.data.toList.drop i).take (f + r)) (-(v : Int)) (f + r) := by rw [E.out]; congr 1; have := of_decide_eq_true HMB.out; simp [this]
      have hd2 := HDI.out; exact bodyPost_ret (v := oneR i P) (by rw [e]; simp [oneR, tokV, results, Tryz.results91, go_sem, z0, z1, z2, z3, HTX.out]; try omega) rfl ⟨rfl, HOZ.out⟩
     go_wp2_with ((refine wpList_store_box (o := ⟨none, _, _, _, _, _⟩) rfl 109 (.tmp 4) (.tmp 99) (by rfl) b0 [.int .u8 0, .string ⟨#[]⟩, .int .i64 0, .int .i64 0] [.int .u8 2, .string (s.extract i (d + r)), .int .i64 (v : Int), .int .i64 0] (by rfl) (by rfl) HBX.out (by rfl) (by kernel_rfl) (by intro u hu; simp at hu; rcases hu with rfl | rfl | rfl | rfl <;> rfl) ?_; intro w9 k1 k2))
     obtain ⟨z0, z1, z2, z3⟩ := box4 k1; have hoW : Only (fun _ => False) w w9 := HOW.out.trans' k2 (fun q hq e => by have := HB0.out; omega); have HOZ := hid hoW; clear hoW k2
     go_wp2_with fail
     have e : P = .ok 2 ((s.data.toList.drop i).take (f + r)) ((v : Int)) (f + r) := by rw [E.out]; congr 1; have := of_decide_eq_false HMB.out; simp [this]
     have hd2 := HDI.out; exact bodyPost_ret (v := oneR i P) (by rw [e]; simp [oneR, tokV, results, Tryz.results91, go_sem, z0, z1, z2, z3, HTX.out]; try omega) rfl ⟨rfl, HOZ.out⟩
end Go.Proofs.YtnkpoddbbdmipaaGreatDoor
