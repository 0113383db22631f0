/- lex.number: a whole number. -/
import Derived.Test.YtgephneppgcnlaaGreatDoorRun
import Derived.Test.YtgephneppgcnlaaGreatDoorWb
import Derived.Test.YtgephneppgcnlaaGreatDoorOwC
import Derived.Deep.CutRange
import Derived.Deep.CutBlock
namespace Go.Proofs.YtgephneppgcnlaaGreatDoor
open Go Go.RowKit
set_option linter.unusedVariables false
set_option linter.unusedSimpArgs false

def tokV (k : Nat) (t : List UInt8) (n : Int) (a : Nat) : Value := .agg #[.int .u8 (k : Int), .string ⟨t.toArray⟩, .int .i64 n, .int .i64 (a : Int)]
def oneV : One → Value
  | .ok k t n len => .tuple #[tokV k t n 0, .int .i64 (len : Int), .int .i64 0, .int .i64 0]
  | .bad off e => .tuple #[tokV 0 [] 0 0, .int .i64 0, .int .i64 (off : Int), .int .i64 (e : Int)]
theorem box4 {w : World} {b : Nat} {x0 x1 x2 x3 : Value} {T : TypeId} (h : w.heap[b]? = some (.cells #[x0, x1, x2, x3] T (0, 0))) :
    w.cell? ⟨b, 0, none⟩ = some x0 ∧ w.cell? ⟨b, 1, none⟩ = some x1 ∧ w.cell? ⟨b, 2, none⟩ = some x2 ∧ w.cell? ⟨b, 3, none⟩ = some x3 := by
  refine ⟨?_, ?_, ?_, ?_⟩ <;> simp [World.cell?, h]
theorem only_bytesWorld (w : World) (t : ByteArray) : Only (fun _ => False) w (Lib.bytesWorld w 5 t) := by
  have h : Only (fun _ => False) w (w.drew.alloc (.cells (Lib.bytesCells w 5 t) 5)) := ((Only.refl _ w).drew).alloc _
  unfold Lib.bytesWorld World.freeze
  rw [if_neg (by decide)]
  obtain ⟨h1, h2, h3, h4, h5⟩ := h
  refine ⟨h1, h2, h3, ?_, fun b hb hS => ?_⟩
  · simp at h4 ⊢
  · rw [← h5 b hb hS]
    simp only [Array.getElem?_modify]
    rw [if_neg (by omega)]
theorem numP_at {l : List UInt8} {f r : Nat} (hf : numFrom l = f) (hr : runL digB (l.drop f) = r) : numP l =
    if f + r = f then .bad (f + r) 4
    else if (l.getD f 0).toNat = 48 ∧ f + 1 < f + r then .bad (f + 1) 4
    else if f + r < l.length ∧ (letB (l.getD (f + r) 0) = true ∨ (l.getD (f + r) 0).toNat = 46) then .bad (f + r) 4
    else if 18 < r then .bad 0 1
    else .ok 2 (l.take (f + r)) ((if f = 1 then -1 else 1) * (decV 0 ((l.drop f).take r) : Int)) (f + r) := by
  subst hf; subst hr
  unfold numP
  simp only [Nat.add_sub_cancel_left]
set_option maxRecDepth 100000 in
set_option maxHeartbeats 2000000 in
theorem number_any (s : ByteArray) (w : World) (hs : s.size ≤ 1000000) (h0 : 0 < s.size) :
    Calls Tryz.prog 43 #[.string s] w fun e w' => e = .returned (oneV (numP s.data.toList)) ∧ Only (fun _ => False) w w' := by
  obtain ⟨f, hf⟩ : ∃ f, numFrom s.data.toList = f := ⟨_, rfl⟩
  have hf1 : f ≤ 1 := by rw [← hf]; exact numFrom_le _
  obtain ⟨r, hr⟩ : ∃ r, runL digB (s.data.toList.drop f) = r := ⟨_, rfl⟩
  have hrl : f + r ≤ s.size := by
    have := runL_le digB (s.data.toList.drop f)
    rw [hr, List.length_drop] at this
    have e : s.data.toList.length = s.size := rfl
    omega
  obtain ⟨W, hW⟩ : ∃ W, W = w.alloc (.cells #[.int .u8 0, .string ⟨#[]⟩, .int .i64 0, .int .i64 0] 50) := ⟨_, rfl⟩
  have R := Lib.hid (run_digit (s.extract f s.size) W (by rw [ByteArray.size_extract]; omega))
  rw [extract_end, hr] at R
  have hm : (f = 1 ∧ (s[0].toNat : Int) = 45) ∨ (f = 0 ∧ (s[0].toNat : Int) ≠ 45) := by
    rw [← hf]; unfold numFrom
    have e : s.data.toList.head?.map (·.toNat) = some s[0].toNat := by
      rw [List.head?_eq_getElem?, List.getElem?_eq_getElem (show 0 < s.data.toList.length from h0)]; rfl
    rw [e]
    by_cases h : s[0].toNat = 45
    · left; exact ⟨by rw [if_pos (by rw [h])], by omega⟩
    · right; exact ⟨by rw [if_neg (by simpa using h)], by omega⟩
  have HF := Lib.hid hf; have HR := Lib.hid hr; have HM := Lib.hid hm; clear hf hr hm
  obtain ⟨P, hP⟩ : ∃ P, numP s.data.toList = P := ⟨_, rfl⟩
  rw [hP]
  have HP := Lib.hid hP; have HWW := Lib.hid hW; clear hP
  go_enter Tryz.func43, Tryz.ntmps43
  go_upto_if 12 with (fail)
  go_cut [6] from 10 to 12 (fun v w' => v = .int .i64 (f : Int) ∧ w' = W)
  case first =>
    rcases HM.out with ⟨h1, h2⟩ | ⟨h1, h2⟩
    · subst h1
      have t1 : decide ((s[0].toNat : Int) = 45) = true := decide_eq_true h2
      go_wp2_with fail
      go_meet
      case rel => exact ⟨by simp, HWW.out.symm⟩
    · subst h1
      have t1 : decide ((s[0].toNat : Int) = 45) = false := decide_eq_false h2
      go_wp2_with fail
      go_meet
      case rel => exact ⟨by simp, HWW.out.symm⟩
  case rest =>
    obtain ⟨rfl, rfl⟩ := hcut
    have hbx : wc.heap[w.heap.size]? = some (.cells [.int .u8 0, .string ⟨#[]⟩, .int .i64 0, .int .i64 0].toArray 50 (0, 0)) := by rw [HWW.out]; exact heap_new _ _
    have hOw : Only (fun _ => False) w wc := by rw [HWW.out]; exact (Only.refl _ w).alloc _
    obtain ⟨b0, hb0⟩ : ∃ b0, w.heap.size = b0 := ⟨_, rfl⟩
    rw [hb0] at hbx
    have HBX := Lib.hid hbx; have HOW := Lib.hid hOw; have HB0 := Lib.hid hb0
    clear hbx hOw hW HWW
    simp only [hb0]; clear hb0
    have hlen : s.data.toList.length = s.size := rfl
    have HLEN := Lib.hid hlen; clear hlen
    by_cases h1 : r = 0
    · have t1 : decide ((f : Int) + (r : Int) = (f : Int)) = true := decide_eq_true (by omega)
      go_wp2_with fail
      refine R.out.mono ?_
      rintro e w1 ⟨rfl, rfl⟩
      go_wp2_with ((refine wpList_store_box (o := ⟨none, _, _, _, _, _⟩) rfl 50 (.tmp 2) (.tmp 23) (by rfl) b0 [.int .u8 0, .string ⟨#[]⟩, .int .i64 0, .int .i64 0] [.int .u8 0, .string ⟨#[]⟩, .int .i64 0, .int .i64 0] (by rfl) (by rfl) HBX.out (by rfl) (by kernel_rfl) (by intro u hu; simp at hu; rcases hu with rfl | rfl | rfl | rfl <;> rfl) ?_; intro w9 k1 k2))
      obtain ⟨z0, z1, z2, z3⟩ := box4 k1
      have hoW : Only (fun _ => False) w w9 := HOW.out.trans' k2 (fun q hq e => by have := HB0.out; omega)
      have HOZ := Lib.hid hoW; clear hoW k2
      go_wp2_with fail
      have e : P = .bad f 4 := by rw [← HP.out]; rw [numP_at HF.out HR.out]; rw [if_pos (by omega), h1, Nat.add_zero]
      exact bodyPost_ret (v := oneV P) (by rw [e]; simp [oneV, tokV, results, Tryz.results43, go_sem, z0, z1, z2, z3]) rfl ⟨rfl, HOZ.out⟩
    have t1 : decide ((f : Int) + (r : Int) = (f : Int)) = false := decide_eq_false (by omega)
    have hfl : f < s.size := by omega
    have hsf : s.data.toList.getD f 0 = s[f] := by rw [List.getD_eq_getElem?_getD, List.getElem?_eq_getElem (show f < s.data.toList.length from hfl)]; rfl
    have HSF := Lib.hid hsf; clear hsf
    obtain ⟨b7, hb7⟩ : ∃ b7, decide (s[f].toNat = 48 ∧ 1 < r) = b7 := ⟨_, rfl⟩
    have HB7 := Lib.hid hb7; clear hb7
    go_upto_region 7 with (fail)
    refine R.out.mono ?_
    rintro e w1 ⟨rfl, rfl⟩
    go_upto_region 7 with (fail)
    go_cut [25] from 10 to 35 (fun v w' => v = .bool b7 ∧ w' = w1)
    case first =>
      have hb := HB7.out
      by_cases h2 : (s[f].toNat : Int) = 48
      · have t2 : decide ((s[f].toNat : Int) = 48) = true := decide_eq_true h2
        by_cases h3 : 1 < r
        · have t3 : decide ((f : Int) + (r : Int) > (f : Int) + 1) = true := decide_eq_true (by omega)
          go_wp2_with fail
          go_meet
          case rel => exact ⟨by rw [← hb]; first | (rw [decide_eq_true (p := s[f].toNat = 48 ∧ 1 < r) ⟨by omega, by omega⟩]; simp; omega) | (rw [decide_eq_false (p := s[f].toNat = 48 ∧ 1 < r) (fun h => by omega)]; simp; omega), rfl⟩
        · have t3 : decide ((f : Int) + (r : Int) > (f : Int) + 1) = false := decide_eq_false (by omega)
          go_wp2_with fail
          go_meet
          case rel => exact ⟨by rw [← hb]; first | (rw [decide_eq_true (p := s[f].toNat = 48 ∧ 1 < r) ⟨by omega, by omega⟩]; simp; omega) | (rw [decide_eq_false (p := s[f].toNat = 48 ∧ 1 < r) (fun h => by omega)]; simp; omega), rfl⟩
      · have t2 : decide ((s[f].toNat : Int) = 48) = false := decide_eq_false h2
        go_wp2_with fail
        go_meet
        case rel => exact ⟨by rw [← hb]; rw [decide_eq_false (fun h => by omega)], rfl⟩
    case rest =>
      obtain ⟨rfl, rfl⟩ := hcut
      cases b7
      rotate_left
      · go_wp2_with ((refine wpList_store_box (o := ⟨none, _, _, _, _, _⟩) rfl 50 (.tmp 2) (.tmp 36) (by rfl) b0 [.int .u8 0, .string ⟨#[]⟩, .int .i64 0, .int .i64 0] [.int .u8 0, .string ⟨#[]⟩, .int .i64 0, .int .i64 0] (by rfl) (by rfl) HBX.out (by rfl) (by kernel_rfl) (by intro u hu; simp at hu; rcases hu with rfl | rfl | rfl | rfl <;> rfl) ?_; intro w9 k1 k2))
        obtain ⟨z0, z1, z2, z3⟩ := box4 k1
        have hoW : Only (fun _ => False) w w9 := HOW.out.trans' k2 (fun q hq e => by have := HB0.out; omega)
        have HOZ := Lib.hid hoW; clear hoW k2
        go_wp2_with fail
        have e : P = .bad (f + 1) 4 := by rw [← HP.out]; rw [numP_at HF.out HR.out]; rw [if_neg (by omega), HSF.out]; have := of_decide_eq_true HB7.out; rw [if_pos (by omega)]
        exact bodyPost_ret (v := oneV P) (by rw [e]; simp [oneV, tokV, results, Tryz.results43, go_sem, z0, z1, z2, z3]) rfl ⟨rfl, HOZ.out⟩
      have hb7 := of_decide_eq_false HB7.out
      obtain ⟨b9, hb9⟩ : ∃ b9, decide (f + r < s.data.toList.length ∧ (letB (s.data.toList.getD (f + r) 0) = true ∨ (s.data.toList.getD (f + r) 0).toNat = 46)) = b9 := ⟨_, rfl⟩
      have HB9 := Lib.hid hb9; have HB7' := Lib.hid hb7; clear hb9 hb7
      go_upto_region 9 with (fail)
      go_cut [39] from 10 to 55 (fun v w' => v = .bool b9 ∧ w' = wc)
      case first =>
        have hb := HB9.out
        have hlen := HLEN.out
        by_cases h2 : f + r < s.size
        · have t2 : decide ((f : Int) + (r : Int) < (s.size : Int)) = true := decide_eq_true (by omega)
          have hsn : s.data.toList.getD (f + r) 0 = s[f + r] := by rw [List.getD_eq_getElem?_getD, List.getElem?_eq_getElem (show f + r < s.data.toList.length from h2)]; rfl
          rw [hsn] at hb
          have L := Lib.hid (letter_any s[f + r] wc)
          cases hL : letB s[f + r]
          · rw [hL] at L
            go_wp2_with fail
            refine L.out.mono ?_
            rintro e w2 ⟨rfl, rfl⟩
            by_cases h3 : (s[f + r].toNat : Int) = 46
            · have t3 : decide ((s[f + r].toNat : Int) = 46) = true := decide_eq_true h3
              go_wp2_with fail
              go_meet
              case rel => exact ⟨by rw [← hb, decide_eq_true ⟨by omega, .inr (by omega)⟩], rfl⟩
            · have t3 : decide ((s[f + r].toNat : Int) = 46) = false := decide_eq_false h3
              go_wp2_with fail
              go_meet
              case rel => exact ⟨by rw [← hb, decide_eq_false (fun h => h.2.elim (fun h => by rw [hL] at h; cases h) (fun h => h3 (by omega)))]; simp [h3], rfl⟩
          · rw [hL] at L
            go_wp2_with fail
            refine L.out.mono ?_
            rintro e w2 ⟨rfl, rfl⟩
            go_wp2_with fail
            go_meet
            case rel => exact ⟨by rw [← hb, decide_eq_true ⟨by omega, .inl hL⟩], rfl⟩
        · have t2 : decide ((f : Int) + (r : Int) < (s.size : Int)) = false := decide_eq_false (by omega)
          go_wp2_with fail
          go_meet
          case rel => exact ⟨by rw [← hb, decide_eq_false (fun h => h2 (by have := h.1; omega))], rfl⟩
      case rest =>
        obtain ⟨rfl, rfl⟩ := hcut
        cases b9
        rotate_left
        · go_wp2_with ((refine wpList_store_box (o := ⟨none, _, _, _, _, _⟩) rfl 50 (.tmp 2) (.tmp 56) (by rfl) b0 [.int .u8 0, .string ⟨#[]⟩, .int .i64 0, .int .i64 0] [.int .u8 0, .string ⟨#[]⟩, .int .i64 0, .int .i64 0] (by rfl) (by rfl) HBX.out (by rfl) (by kernel_rfl) (by intro u hu; simp at hu; rcases hu with rfl | rfl | rfl | rfl <;> rfl) ?_; intro w9 k1 k2))
          obtain ⟨z0, z1, z2, z3⟩ := box4 k1
          have hoW : Only (fun _ => False) w w9 := HOW.out.trans' k2 (fun q hq e => by have := HB0.out; omega)
          have HOZ := Lib.hid hoW; clear hoW k2
          go_wp2_with fail
          have e : P = .bad (f + r) 4 := by rw [← HP.out]; rw [numP_at HF.out HR.out]; rw [if_neg (by omega), HSF.out, if_neg (by have := HB7'.out; omega), if_pos (of_decide_eq_true HB9.out)]
          exact bodyPost_ret (v := oneV P) (by rw [e]; simp [oneV, tokV, results, Tryz.results43, go_sem, z0, z1, z2, z3]) rfl ⟨rfl, HOZ.out⟩
        by_cases h4 : 18 < r
        · have t4 : decide ((f : Int) + (r : Int) - (f : Int) > 18) = true := decide_eq_true (by omega)
          go_wp2_with ((refine wpList_store_box (o := ⟨none, _, _, _, _, _⟩) rfl 50 (.tmp 2) (.tmp 63) (by rfl) b0 [.int .u8 0, .string ⟨#[]⟩, .int .i64 0, .int .i64 0] [.int .u8 0, .string ⟨#[]⟩, .int .i64 0, .int .i64 0] (by rfl) (by rfl) HBX.out (by rfl) (by kernel_rfl) (by intro u hu; simp at hu; rcases hu with rfl | rfl | rfl | rfl <;> rfl) ?_; intro w9 k1 k2))
          obtain ⟨z0, z1, z2, z3⟩ := box4 k1
          have hoW : Only (fun _ => False) w w9 := HOW.out.trans' k2 (fun q hq e => by have := HB0.out; omega)
          have HOZ := Lib.hid hoW; clear hoW k2
          go_wp2_with fail
          have e : P = .bad 0 1 := by rw [← HP.out]; rw [numP_at HF.out HR.out]; rw [if_neg (by omega), HSF.out, if_neg (by have := HB7'.out; omega), if_neg (of_decide_eq_false HB9.out), if_pos h4]
          exact bodyPost_ret (v := oneV P) (by rw [e]; simp [oneV, tokV, results, Tryz.results43, go_sem, z0, z1, z2, z3]) rfl ⟨rfl, HOZ.out⟩
        · have t4 : decide ((f : Int) + (r : Int) - (f : Int) > 18) = false := decide_eq_false (by omega)
          have e : numP s.data.toList = .ok 2 (s.data.toList.take (f + r)) ((if f = 1 then -1 else 1) * (decV 0 ((s.data.toList.drop f).take r) : Int)) (f + r) := by rw [numP_at HF.out HR.out]; rw [if_neg (by omega), HSF.out, if_neg (by have := HB7'.out; omega), if_neg (of_decide_eq_false HB9.out), if_neg h4]
          have hpar := parse_num e
          obtain ⟨N, hN⟩ : ∃ N, ((if f = 1 then -1 else 1) * (decV 0 ((s.data.toList.drop f).take r) : Int)) = N := ⟨_, rfl⟩
          rw [hN] at e hpar
          rw [← extract_pre] at hpar
          have PI := Lib.hid (Tryz.strconv_ParseInt_10_at64_ok (s.extract 0 (f + r)) (by rw [ByteArray.size_extract]; omega) N hpar wc)
          have E := Lib.hid (HP.out.symm.trans e); clear hpar hN e
          go_wp2_with fail
          refine PI.out.mono ?_
          rintro e w2 ⟨rfl, hw2⟩
          have hO2 : Only (fun _ => False) wc w2 := by
            rcases hw2 with rfl | ⟨t, rfl⟩
            · exact Only.refl _ _
            · exact only_bytesWorld _ _
          have hbx2 := hO2.block b0 (by have := (Array.getElem?_eq_some_iff.1 HBX.out).1; exact this) (fun h => h)
          rw [HBX.out] at hbx2
          have HBX2 := Lib.hid hbx2; have HO2 := Lib.hid hO2; clear hbx2 hO2 hw2
          go_wp2_with ((refine wpList_store_box (o := ⟨none, _, _, _, _, _⟩) rfl 50 (.tmp 2) (.tmp 75) (by rfl) b0 [.int .u8 0, .string ⟨#[]⟩, .int .i64 0, .int .i64 0] [.int .u8 2, .string (s.extract 0 (f + r)), .int .i64 N, .int .i64 0] (by rfl) (by rfl) HBX2.out (by rfl) (by kernel_rfl) (by intro u hu; simp at hu; rcases hu with rfl | rfl | rfl | rfl <;> rfl) ?_; intro w9 k1 k2))
          obtain ⟨z0, z1, z2, z3⟩ := box4 k1
          have hoW : Only (fun _ => False) w w9 := (HOW.out.trans HO2.out).trans' k2 (fun q hq e => by have := HB0.out; omega)
          have HOZ := Lib.hid hoW; clear hoW k2
          go_wp2_with fail
          exact bodyPost_ret (v := oneV P) (by rw [E.out]; simp [oneV, tokV, results, Tryz.results43, go_sem, z0, z1, z2, z3, ba_eq (extract_pre s (f + r))]) rfl ⟨rfl, HOZ.out⟩
end Go.Proofs.YtgephneppgcnlaaGreatDoor
