/- lex.token: the next token. -/
import Derived.Test.YtgephneppgcnlaaGreatDoorText
namespace Go.Proofs.YtgephneppgcnlaaGreatDoor
open Go Go.RowKit
set_option linter.unusedVariables false
set_option linter.unusedSimpArgs false

theorem signB_index (u : UInt8) : decide ((0 : Int) ≤ Lib.indexByte [33, 36, 40, 41, 58, 61, 64, 91, 93, 123, 124, 125, 38] u) = signB u := by
  revert u; refine u8_all ?_; decide +kernel
theorem u8_nat (a : UInt8) (k : Nat) (hk : k < 256) : (a == UInt8.ofNat k) = decide (a.toNat = k) := by
  rw [Bool.eq_iff_iff]
  simp only [beq_iff_eq, decide_eq_true_eq]
  constructor
  · rintro rfl; simp; omega
  · intro h; apply UInt8.toNat_inj.1; rw [h]; simp; omega
theorem dots_pre (l : List UInt8) : Lib.hasPrefix l [46, 46, 46] = dotsB l := by
  unfold Lib.hasPrefix dotsB
  rw [Bool.eq_iff_iff]
  simp only [decide_eq_true_eq]
  match l with
  | [] => simp
  | [a] => simp
  | [a, b] => simp
  | a :: b :: c :: l =>
    simp
    rw [← UInt8.toNat_inj, ← UInt8.toNat_inj, ← UInt8.toNat_inj]
    simp [eq_comm]
theorem one_byte (s : ByteArray) (h0 : 0 < s.size) : s.extract 0 1 = ⟨#[s[0]]⟩ := by
  have e := ba_eq (t := s.extract 0 1) (l := [s[0]]) (by rw [extract_pre]; have := drop_get s 0 h0; rw [List.drop_zero] at this; rw [this]; rfl)
  exact e
theorem oneP_at {L : List UInt8} {c : UInt8} {l : List UInt8} (h : L = c :: l) : oneP L =
    if letB c then (if 32 < runL ldB L then .bad 0 2 else .ok 1 (L.take (runL ldB L)) 0 (runL ldB L))
    else if c.toNat = 45 ∨ digB c = true then numP L
    else if c.toNat = 34 then txtP [] 1 l
    else if dotsB L then .ok 4 [46, 46, 46] 0 3
    else if signB c then .ok 4 [c] 0 1
    else .bad 0 4 := by subst h; rfl
set_option maxRecDepth 100000 in
set_option maxHeartbeats 4000000 in
theorem token_any (s : ByteArray) (w : World) (hs : s.size ≤ 1000000) (h0 : 0 < s.size) :
    Calls Tryz.prog 18 #[.string s] w fun e w' => e = .returned (oneV (oneP s.data.toList)) ∧ Only (fun _ => False) w w' := by
  obtain ⟨P, hP⟩ : ∃ P, oneP s.data.toList = P := ⟨_, rfl⟩
  rw [hP]
  have hL := drop_get s 0 h0
  rw [List.drop_zero] at hL
  have HLL := Lib.hid hL; clear hL
  obtain ⟨W, hW⟩ : ∃ W, W = w.alloc (.cells #[.int .u8 0, .string ⟨#[]⟩, .int .i64 0, .int .i64 0] 50) := ⟨_, rfl⟩
  have hbx : W.heap[w.heap.size]? = some (.cells [.int .u8 0, .string ⟨#[]⟩, .int .i64 0, .int .i64 0].toArray 50 (0, 0)) := by rw [hW]; exact heap_new _ _
  have hOw : Only (fun _ => False) w W := by rw [hW]; exact (Only.refl _ w).alloc _
  obtain ⟨b0, hb0⟩ : ∃ b0, w.heap.size = b0 := ⟨_, rfl⟩
  rw [hb0] at hbx
  have HBX := Lib.hid hbx; have HOW := Lib.hid hOw; have HB0 := Lib.hid hb0; have HW := Lib.hid hW; have HP := Lib.hid hP
  clear hbx hOw hP
  go_enter Tryz.func18, Tryz.ntmps18
  go_upto_region 1 with (fail)
  rw [← HW.out]
  try rw [hb0]
  clear hb0 hW HW
  have L := Lib.hid (letter_any s[0] W)
  cases hc : letB s[0]
  rotate_left
  · rw [hc] at L
    obtain ⟨r, hr⟩ : ∃ r, runL ldB s.data.toList = r := ⟨_, rfl⟩
    have hrl : r ≤ s.size := by rw [← hr]; exact runL_le _ _
    have R := Lib.hid (run_ld s W (by omega))
    rw [hr] at R
    have HR := Lib.hid hr; have HC := Lib.hid hc; clear hr hc
    go_wp2_with fail
    refine L.out.mono ?_
    rintro e w1 ⟨rfl, rfl⟩
    go_wp2_with fail
    refine R.out.mono ?_
    rintro e w2 ⟨rfl, rfl⟩
    by_cases c2 : 32 < r
    · have t3 : decide ((r : Int) > 32) = true := decide_eq_true (by omega)
      go_wp2_with ((refine wpList_store_box (o := ⟨none, _, _, _, _, _⟩) rfl 50 (.tmp 2) (.tmp 17) (by rfl) b0 [.int .u8 0, .string ⟨#[]⟩, .int .i64 0, .int .i64 0] [.int .u8 0, .string ⟨#[]⟩, .int .i64 0, .int .i64 0] (by rfl) (by rfl) HBX.out (by rfl) (by kernel_rfl) (by intro u hu; simp at hu; rcases hu with rfl | rfl | rfl | rfl <;> rfl) ?_; intro w9 k1 k2))
      obtain ⟨z0, z1, z2, z3⟩ := box4 k1
      have hoW : Only (fun _ => False) w w9 := HOW.out.trans' k2 (fun q hq e => by have := HB0.out; omega)
      have HOZ := Lib.hid hoW; clear hoW k2
      go_wp2_with fail
      have e : P = .bad 0 2 := by rw [← HP.out, oneP_at HLL.out, HR.out, if_pos HC.out, if_pos c2]
      exact bodyPost_ret (v := oneV P) (by rw [e]; simp [oneV, tokV, results, Tryz.results18, go_sem, z0, z1, z2, z3]) rfl ⟨rfl, HOZ.out⟩
    · have t3 : decide ((r : Int) > 32) = false := decide_eq_false (by omega)
      go_wp2_with ((refine wpList_store_box (o := ⟨none, _, _, _, _, _⟩) rfl 50 (.tmp 2) (.tmp 21) (by rfl) b0 [.int .u8 0, .string ⟨#[]⟩, .int .i64 0, .int .i64 0] [.int .u8 1, .string (s.extract 0 r), .int .i64 0, .int .i64 0] (by rfl) (by rfl) HBX.out (by rfl) (by kernel_rfl) (by intro u hu; simp at hu; rcases hu with rfl | rfl | rfl | rfl <;> rfl) ?_; intro w9 k1 k2))
      obtain ⟨z0, z1, z2, z3⟩ := box4 k1
      have hoW : Only (fun _ => False) w w9 := HOW.out.trans' k2 (fun q hq e => by have := HB0.out; omega)
      have HOZ := Lib.hid hoW; clear hoW k2
      go_wp2_with fail
      have e : P = .ok 1 (s.data.toList.take r) 0 r := by rw [← HP.out, oneP_at HLL.out, HR.out, if_pos HC.out, if_neg c2]
      exact bodyPost_ret (v := oneV P) (by rw [e]; simp [oneV, tokV, results, Tryz.results18, go_sem, z0, z1, z2, z3, ba_eq (extract_pre s r)]) rfl ⟨rfl, HOZ.out⟩
  · rw [hc] at L
    have HC := Lib.hid hc; clear hc
    go_wp2_with fail
    refine L.out.mono ?_
    rintro e w1 ⟨rfl, rfl⟩
    by_cases c1 : (s[0].toNat : Int) = 45
    · have t1 : decide ((s[0].toNat : Int) = 45) = true := decide_eq_true c1
      have Q := Lib.hid (number_any s w1 hs h0)
      cases hq : numP s.data.toList with
      | bad off e =>
        rw [hq] at Q
        unfold oneV tokV at Q
        go_wp2_with fail
        refine Q.out.mono ?_
        rintro e3 w3 ⟨rfl, O3⟩
        have hbx3 := O3.block b0 (by have := (Array.getElem?_eq_some_iff.1 HBX.out).1; exact this) (fun h => h)
        rw [HBX.out] at hbx3
        have hO3 : Only (fun _ => False) w w3 := HOW.out.trans O3
        have HBX3 := Lib.hid hbx3; have HO3 := Lib.hid hO3; clear hbx3 hO3 O3
        go_wp2_with ((refine wpList_store_box (o := ⟨none, _, _, _, _, _⟩) rfl 50 (.tmp 2) (.tmp 30) (by rfl) b0 [.int .u8 0, .string ⟨#[]⟩, .int .i64 0, .int .i64 0] [.int .u8 0, .string ⟨#[]⟩, .int .i64 0, .int .i64 0] (by rfl) (by rfl) HBX3.out (by rfl) (by kernel_rfl) (by intro u hu; simp at hu; rcases hu with rfl | rfl | rfl | rfl <;> rfl) ?_; intro w9 k1 k2))
        obtain ⟨z0, z1, z2, z3⟩ := box4 k1
        have hoW : Only (fun _ => False) w w9 := HO3.out.trans' k2 (fun q hq e => by have := HB0.out; omega)
        have HOZ := Lib.hid hoW; clear hoW k2
        go_wp2_with fail
        have e : P = .bad off e := by rw [← HP.out, oneP_at HLL.out, if_neg (by rw [HC.out]; decide), if_pos (.inl (by omega))]; exact hq
        exact bodyPost_ret (v := oneV P) (by rw [e]; simp [oneV, tokV, results, Tryz.results18, go_sem, z0, z1, z2, z3]) rfl ⟨rfl, HOZ.out⟩
      | ok kk tt nn len =>
        rw [hq] at Q
        unfold oneV tokV at Q
        go_wp2_with fail
        refine Q.out.mono ?_
        rintro e3 w3 ⟨rfl, O3⟩
        have hbx3 := O3.block b0 (by have := (Array.getElem?_eq_some_iff.1 HBX.out).1; exact this) (fun h => h)
        rw [HBX.out] at hbx3
        have hO3 : Only (fun _ => False) w w3 := HOW.out.trans O3
        have HBX3 := Lib.hid hbx3; have HO3 := Lib.hid hO3; clear hbx3 hO3 O3
        go_wp2_with ((refine wpList_store_box (o := ⟨none, _, _, _, _, _⟩) rfl 50 (.tmp 2) (.tmp 30) (by rfl) b0 [.int .u8 0, .string ⟨#[]⟩, .int .i64 0, .int .i64 0] [.int .u8 (kk : Int), .string ⟨tt.toArray⟩, .int .i64 nn, .int .i64 0] (by rfl) (by rfl) HBX3.out (by rfl) (by kernel_rfl) (by intro u hu; simp at hu; rcases hu with rfl | rfl | rfl | rfl <;> rfl) ?_; intro w9 k1 k2))
        obtain ⟨z0, z1, z2, z3⟩ := box4 k1
        have hoW : Only (fun _ => False) w w9 := HO3.out.trans' k2 (fun q hq e => by have := HB0.out; omega)
        have HOZ := Lib.hid hoW; clear hoW k2
        go_wp2_with fail
        have e : P = .ok kk tt nn len := by rw [← HP.out, oneP_at HLL.out, if_neg (by rw [HC.out]; decide), if_pos (.inl (by omega))]; exact hq
        exact bodyPost_ret (v := oneV P) (by rw [e]; simp [oneV, tokV, results, Tryz.results18, go_sem, z0, z1, z2, z3]) rfl ⟨rfl, HOZ.out⟩
    · have t1 : decide ((s[0].toNat : Int) = 45) = false := decide_eq_false c1
      have D := Lib.hid (digit_any s[0] w1)
      cases hd : digB s[0]
      rotate_left
      · rw [hd] at D
        have HD := Lib.hid hd; clear hd
        go_wp2_with fail
        refine D.out.mono ?_
        rintro e w2 ⟨rfl, rfl⟩
        have Q := Lib.hid (number_any s w2 hs h0)
        cases hq : numP s.data.toList with
        | bad off e =>
          rw [hq] at Q
          unfold oneV tokV at Q
          go_wp2_with fail
          refine Q.out.mono ?_
          rintro e3 w3 ⟨rfl, O3⟩
          have hbx3 := O3.block b0 (by have := (Array.getElem?_eq_some_iff.1 HBX.out).1; exact this) (fun h => h)
          rw [HBX.out] at hbx3
          have hO3 : Only (fun _ => False) w w3 := HOW.out.trans O3
          have HBX3 := Lib.hid hbx3; have HO3 := Lib.hid hO3; clear hbx3 hO3 O3
          go_wp2_with ((refine wpList_store_box (o := ⟨none, _, _, _, _, _⟩) rfl 50 (.tmp 2) (.tmp 30) (by rfl) b0 [.int .u8 0, .string ⟨#[]⟩, .int .i64 0, .int .i64 0] [.int .u8 0, .string ⟨#[]⟩, .int .i64 0, .int .i64 0] (by rfl) (by rfl) HBX3.out (by rfl) (by kernel_rfl) (by intro u hu; simp at hu; rcases hu with rfl | rfl | rfl | rfl <;> rfl) ?_; intro w9 k1 k2))
          obtain ⟨z0, z1, z2, z3⟩ := box4 k1
          have hoW : Only (fun _ => False) w w9 := HO3.out.trans' k2 (fun q hq e => by have := HB0.out; omega)
          have HOZ := Lib.hid hoW; clear hoW k2
          go_wp2_with fail
          have e : P = .bad off e := by rw [← HP.out, oneP_at HLL.out, if_neg (by rw [HC.out]; decide), if_pos (.inr HD.out)]; exact hq
          exact bodyPost_ret (v := oneV P) (by rw [e]; simp [oneV, tokV, results, Tryz.results18, go_sem, z0, z1, z2, z3]) rfl ⟨rfl, HOZ.out⟩
        | ok kk tt nn len =>
          rw [hq] at Q
          unfold oneV tokV at Q
          go_wp2_with fail
          refine Q.out.mono ?_
          rintro e3 w3 ⟨rfl, O3⟩
          have hbx3 := O3.block b0 (by have := (Array.getElem?_eq_some_iff.1 HBX.out).1; exact this) (fun h => h)
          rw [HBX.out] at hbx3
          have hO3 : Only (fun _ => False) w w3 := HOW.out.trans O3
          have HBX3 := Lib.hid hbx3; have HO3 := Lib.hid hO3; clear hbx3 hO3 O3
          go_wp2_with ((refine wpList_store_box (o := ⟨none, _, _, _, _, _⟩) rfl 50 (.tmp 2) (.tmp 30) (by rfl) b0 [.int .u8 0, .string ⟨#[]⟩, .int .i64 0, .int .i64 0] [.int .u8 (kk : Int), .string ⟨tt.toArray⟩, .int .i64 nn, .int .i64 0] (by rfl) (by rfl) HBX3.out (by rfl) (by kernel_rfl) (by intro u hu; simp at hu; rcases hu with rfl | rfl | rfl | rfl <;> rfl) ?_; intro w9 k1 k2))
          obtain ⟨z0, z1, z2, z3⟩ := box4 k1
          have hoW : Only (fun _ => False) w w9 := HO3.out.trans' k2 (fun q hq e => by have := HB0.out; omega)
          have HOZ := Lib.hid hoW; clear hoW k2
          go_wp2_with fail
          have e : P = .ok kk tt nn len := by rw [← HP.out, oneP_at HLL.out, if_neg (by rw [HC.out]; decide), if_pos (.inr HD.out)]; exact hq
          exact bodyPost_ret (v := oneV P) (by rw [e]; simp [oneV, tokV, results, Tryz.results18, go_sem, z0, z1, z2, z3]) rfl ⟨rfl, HOZ.out⟩
      · rw [hd] at D
        have hn45 : ¬ (s[0].toNat = 45 ∨ digB s[0] = true) := fun h => h.elim (fun h => c1 (by omega)) (fun h => by rw [hd] at h; cases h)
        have HD := Lib.hid hn45; clear hd hn45
        go_wp2_with fail
        refine D.out.mono ?_
        rintro e w2 ⟨rfl, rfl⟩
        by_cases c2 : (s[0].toNat : Int) = 34
        · have t2 : decide ((s[0].toNat : Int) = 34) = true := decide_eq_true c2
          have Q := Lib.hid (text_any s w2 hs h0)
          cases hq : txtP [] 1 (s.data.toList.drop 1) with
          | bad off e =>
            rw [hq] at Q
            unfold oneV tokV at Q
            go_wp2_with fail
            refine Q.out.mono ?_
            rintro e3 w3 ⟨rfl, O3⟩
            have hbx3 := O3.block b0 (by have := (Array.getElem?_eq_some_iff.1 HBX.out).1; exact this) (fun h => h)
            rw [HBX.out] at hbx3
            have hO3 : Only (fun _ => False) w w3 := HOW.out.trans O3
            have HBX3 := Lib.hid hbx3; have HO3 := Lib.hid hO3; clear hbx3 hO3 O3
            go_wp2_with ((refine wpList_store_box (o := ⟨none, _, _, _, _, _⟩) rfl 50 (.tmp 2) (.tmp 39) (by rfl) b0 [.int .u8 0, .string ⟨#[]⟩, .int .i64 0, .int .i64 0] [.int .u8 0, .string ⟨#[]⟩, .int .i64 0, .int .i64 0] (by rfl) (by rfl) HBX3.out (by rfl) (by kernel_rfl) (by intro u hu; simp at hu; rcases hu with rfl | rfl | rfl | rfl <;> rfl) ?_; intro w9 k1 k2))
            obtain ⟨z0, z1, z2, z3⟩ := box4 k1
            have hoW : Only (fun _ => False) w w9 := HO3.out.trans' k2 (fun q hq e => by have := HB0.out; omega)
            have HOZ := Lib.hid hoW; clear hoW k2
            go_wp2_with fail
            have e : P = .bad off e := by rw [← HP.out, oneP_at HLL.out, if_neg (by rw [HC.out]; decide), if_neg HD.out, if_pos (by omega)]; exact hq
            exact bodyPost_ret (v := oneV P) (by rw [e]; simp [oneV, tokV, results, Tryz.results18, go_sem, z0, z1, z2, z3]) rfl ⟨rfl, HOZ.out⟩
          | ok kk tt nn len =>
            rw [hq] at Q
            unfold oneV tokV at Q
            go_wp2_with fail
            refine Q.out.mono ?_
            rintro e3 w3 ⟨rfl, O3⟩
            have hbx3 := O3.block b0 (by have := (Array.getElem?_eq_some_iff.1 HBX.out).1; exact this) (fun h => h)
            rw [HBX.out] at hbx3
            have hO3 : Only (fun _ => False) w w3 := HOW.out.trans O3
            have HBX3 := Lib.hid hbx3; have HO3 := Lib.hid hO3; clear hbx3 hO3 O3
            go_wp2_with ((refine wpList_store_box (o := ⟨none, _, _, _, _, _⟩) rfl 50 (.tmp 2) (.tmp 39) (by rfl) b0 [.int .u8 0, .string ⟨#[]⟩, .int .i64 0, .int .i64 0] [.int .u8 (kk : Int), .string ⟨tt.toArray⟩, .int .i64 nn, .int .i64 0] (by rfl) (by rfl) HBX3.out (by rfl) (by kernel_rfl) (by intro u hu; simp at hu; rcases hu with rfl | rfl | rfl | rfl <;> rfl) ?_; intro w9 k1 k2))
            obtain ⟨z0, z1, z2, z3⟩ := box4 k1
            have hoW : Only (fun _ => False) w w9 := HO3.out.trans' k2 (fun q hq e => by have := HB0.out; omega)
            have HOZ := Lib.hid hoW; clear hoW k2
            go_wp2_with fail
            have e : P = .ok kk tt nn len := by rw [← HP.out, oneP_at HLL.out, if_neg (by rw [HC.out]; decide), if_neg HD.out, if_pos (by omega)]; exact hq
            exact bodyPost_ret (v := oneV P) (by rw [e]; simp [oneV, tokV, results, Tryz.results18, go_sem, z0, z1, z2, z3]) rfl ⟨rfl, HOZ.out⟩
        · have t2 : decide ((s[0].toNat : Int) = 34) = false := decide_eq_false c2
          have HX := Lib.hid (Tryz.strings_HasPrefix s ⟨#[46, 46, 46]⟩ w2)
          have e0 : (⟨#[46, 46, 46]⟩ : ByteArray).data.toList = [46, 46, 46] := rfl
          rw [e0, dots_pre] at HX; clear e0
          cases hd : dotsB s.data.toList
          rotate_left
          · rw [hd] at HX
            have HDD := Lib.hid hd; clear hd
            go_wp2_with fail
            refine HX.out.mono ?_
            rintro e w3 ⟨rfl, rfl⟩
            go_wp2_with ((refine wpList_store_box (o := ⟨none, _, _, _, _, _⟩) rfl 50 (.tmp 2) (.tmp 46) (by rfl) b0 [.int .u8 0, .string ⟨#[]⟩, .int .i64 0, .int .i64 0] [.int .u8 4, .string ⟨#[46, 46, 46]⟩, .int .i64 0, .int .i64 0] (by rfl) (by rfl) HBX.out (by rfl) (by kernel_rfl) (by intro u hu; simp at hu; rcases hu with rfl | rfl | rfl | rfl <;> rfl) ?_; intro w9 k1 k2))
            obtain ⟨z0, z1, z2, z3⟩ := box4 k1
            have hoW : Only (fun _ => False) w w9 := HOW.out.trans' k2 (fun q hq e => by have := HB0.out; omega)
            have HOZ := Lib.hid hoW; clear hoW k2
            go_wp2_with fail
            have e : P = .ok 4 [46, 46, 46] 0 3 := by rw [← HP.out, oneP_at HLL.out, if_neg (by rw [HC.out]; decide), if_neg HD.out, if_neg (by omega), if_pos HDD.out]
            exact bodyPost_ret (v := oneV P) (by rw [e]; simp [oneV, tokV, results, Tryz.results18, go_sem, z0, z1, z2, z3]) rfl ⟨rfl, HOZ.out⟩
          · rw [hd] at HX
            have HDD := Lib.hid hd; clear hd
            have IX := Lib.hid (index_any ⟨#[33, 36, 40, 41, 58, 61, 64, 91, 93, 123, 124, 125, 38]⟩ (s[0].toNat : Int) w2)
            have e0 : (⟨#[33, 36, 40, 41, 58, 61, 64, 91, 93, 123, 124, 125, 38]⟩ : ByteArray).data.toList = [33, 36, 40, 41, 58, 61, 64, 91, 93, 123, 124, 125, 38] := rfl
            rw [toNat_u8, e0] at IX; clear e0
            have hsg := signB_index s[0]
            have hge := Lib.indexByte_ge [33, 36, 40, 41, 58, 61, 64, 91, 93, 123, 124, 125, 38] s[0]
            obtain ⟨m, hm⟩ : ∃ m, Lib.indexByte [33, 36, 40, 41, 58, 61, 64, 91, 93, 123, 124, 125, 38] s[0] = m := ⟨_, rfl⟩
            rw [hm] at hsg hge IX
            have HSG := Lib.hid hsg; clear hsg hm
            by_cases c3 : 0 ≤ m
            · have t3 : decide (m ≥ 0) = true := decide_eq_true c3
              have hs1 : 1 ≤ s.size := h0
              go_wp2_with fail
              refine HX.out.mono ?_
              rintro e w3 ⟨rfl, rfl⟩
              go_wp2_with fail
              refine IX.out.mono ?_
              rintro e w4 ⟨rfl, rfl⟩
              go_wp2_with ((refine wpList_store_box (o := ⟨none, _, _, _, _, _⟩) rfl 50 (.tmp 2) (.tmp 53) (by rfl) b0 [.int .u8 0, .string ⟨#[]⟩, .int .i64 0, .int .i64 0] [.int .u8 4, .string (s.extract 0 1), .int .i64 0, .int .i64 0] (by rfl) (by rfl) HBX.out (by rfl) (by kernel_rfl) (by intro u hu; simp at hu; rcases hu with rfl | rfl | rfl | rfl <;> rfl) ?_; intro w9 k1 k2))
              obtain ⟨z0, z1, z2, z3⟩ := box4 k1
              have hoW : Only (fun _ => False) w w9 := HOW.out.trans' k2 (fun q hq e => by have := HB0.out; omega)
              have HOZ := Lib.hid hoW; clear hoW k2
              go_wp2_with fail
              have e : P = .ok 4 [s[0]] 0 1 := by rw [← HP.out, oneP_at HLL.out, if_neg (by rw [HC.out]; decide), if_neg HD.out, if_neg (by omega), if_neg (by rw [HDD.out]; decide), if_pos (by rw [← HSG.out]; exact decide_eq_true c3)]
              exact bodyPost_ret (v := oneV P) (by rw [e]; simp [oneV, tokV, results, Tryz.results18, go_sem, z0, z1, z2, z3, one_byte s h0]) rfl ⟨rfl, HOZ.out⟩
            · have t3 : decide (m ≥ 0) = false := decide_eq_false c3
              go_wp2_with fail
              refine HX.out.mono ?_
              rintro e w3 ⟨rfl, rfl⟩
              go_wp2_with fail
              refine IX.out.mono ?_
              rintro e w4 ⟨rfl, rfl⟩
              go_wp2_with ((refine wpList_store_box (o := ⟨none, _, _, _, _, _⟩) rfl 50 (.tmp 2) (.tmp 54) (by rfl) b0 [.int .u8 0, .string ⟨#[]⟩, .int .i64 0, .int .i64 0] [.int .u8 0, .string ⟨#[]⟩, .int .i64 0, .int .i64 0] (by rfl) (by rfl) HBX.out (by rfl) (by kernel_rfl) (by intro u hu; simp at hu; rcases hu with rfl | rfl | rfl | rfl <;> rfl) ?_; intro w9 k1 k2))
              obtain ⟨z0, z1, z2, z3⟩ := box4 k1
              have hoW : Only (fun _ => False) w w9 := HOW.out.trans' k2 (fun q hq e => by have := HB0.out; omega)
              have HOZ := Lib.hid hoW; clear hoW k2
              go_wp2_with fail
              have e : P = .bad 0 4 := by rw [← HP.out, oneP_at HLL.out, if_neg (by rw [HC.out]; decide), if_neg HD.out, if_neg (by omega), if_neg (by rw [HDD.out]; decide), if_neg (by rw [← HSG.out]; simp; omega)]
              exact bodyPost_ret (v := oneV P) (by rw [e]; simp [oneV, tokV, results, Tryz.results18, go_sem, z0, z1, z2, z3]) rfl ⟨rfl, HOZ.out⟩
end Go.Proofs.YtgephneppgcnlaaGreatDoor
