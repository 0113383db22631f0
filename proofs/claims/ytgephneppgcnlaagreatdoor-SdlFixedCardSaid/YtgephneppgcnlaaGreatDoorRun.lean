/- Runs of bytes: the program's run at each of the tests that it is called with; the place of a byte among a few. -/
import Derived.Test.YtgephneppgcnlaaGreatDoorLet
import Derived.Laws.Externs
namespace Go.Proofs.YtgephneppgcnlaaGreatDoor
open Go Go.RowKit
set_option linter.unusedVariables false
set_option linter.unusedSimpArgs false

set_option maxRecDepth 100000 in
theorem lite_index (s : ByteArray) (c : Int) (w : World) :
    Calls Tryz.prog 39 #[.string s, .int .u8 c] w fun e w' => e = .returned (.int .i64 (Lib.indexByte s.data.toList c.toNat.toUInt8)) ∧ w' = w := by
  go_enter Tryz.func39, Tryz.ntmps39
  go_wp2
  rw [run_callFunc_extern Tryz.func58 (by kernel_rfl) (by kernel_rfl) (by kernel_rfl) (e := Extern.BytealgIndexByte.indexByte) (by kernel_rfl), Lib.run_indexByteString]
  simp only [Result.andThen]
  rw [Oper.upon_value]
  go_wp2
  go_ret
  exact ⟨rfl, rfl⟩
set_option maxRecDepth 100000 in
theorem index_any (s : ByteArray) (c : Int) (w : World) :
    Calls Tryz.prog 16 #[.string s, .int .u8 c] w fun e w' => e = .returned (.int .i64 (Lib.indexByte s.data.toList c.toNat.toUInt8)) ∧ w' = w := by
  go_enter Tryz.func16, Tryz.ntmps16
  go_wp2_with fail
  refine (lite_index s c w).mono ?_
  rintro e w1 ⟨rfl, rfl⟩
  go_wp2
  go_ret
  exact ⟨rfl, rfl⟩

theorem runL_drop {f : UInt8 → Bool} {l : List UInt8} {k : Nat} (hk : k < l.length) (h : ∀ j (hj : j < l.length), j < k → f l[j] = true) (hf : f l[k] = false) : runL f l = k :=
  runL_eq l k (by omega) h (fun _ => hf)
set_option maxRecDepth 100000 in
set_option maxHeartbeats 2000000 in
theorem run_digit (s : ByteArray) (w : World) (hs : s.size ≤ 281474976710656) :
    Calls Tryz.prog 14 #[.string s, .func (.func 42) #[] #[]] w fun e w' => e = .returned (.int .i64 (runL digB s.data.toList : Nat)) ∧ w' = w := by
  have T := Lib.hid (digit_any)
  go_enter Tryz.func14, Tryz.ntmps14
  go_wp2
  go_loopw [8] (fun i wr => ∃ k : Nat, i = .int .i64 k ∧ k ≤ s.size ∧ wr = w ∧ Hid (∀ j (hj : j < s.data.toList.length), j < k → digB s.data.toList[j] = true)) (fun i _ => s.size - (intOf i).toNat)
  case atStart => exact ⟨0, by simp, by omega, rfl, Lib.hid (fun j _ h => absurd h (by omega))⟩
  case round =>
    obtain ⟨k, rfl, hk, rfl, HK⟩ := hrel
    by_cases hlt : k < s.size
    · have t1 : decide ((k : Int) < (s.size : Int)) = true := decide_eq_true (by omega)
      obtain ⟨b, hb⟩ : ∃ b, digB s[k] = b := ⟨_, rfl⟩
      have C := Lib.hid (T.out s[k] wr)
      rw [hb] at C
      have HB := Lib.hid hb; clear hb
      cases b
      · go_wp2_with fail
        refine C.out.mono ?_
        rintro e w1 ⟨rfl, rfl⟩
        go_wp2
        go_ret
        refine ⟨ret_int ?_, rfl⟩
        rw [runL_drop (k := k) hlt HK.out HB.out]
      · go_wp2_with fail
        refine C.out.mono ?_
        rintro e w1 ⟨rfl, rfl⟩
        go_wp2
        go_roundw
        case rel =>
          refine ⟨k + 1, by simp, by omega, trivial, Lib.hid (fun j hj hjk => ?_)⟩
          rcases Nat.lt_or_ge j k with h | h
          · exact HK.out j hj h
          · obtain rfl : j = k := by omega
            exact HB.out
        case measure => simp [intOf]; omega
    · have t1 : decide ((k : Int) < (s.size : Int)) = false := decide_eq_false (by omega)
      have hke : k = s.size := by omega
      go_wp2
      go_ret
      refine ⟨ret_int ?_, rfl⟩
      rw [runL_eq s.data.toList s.size (Nat.le_refl _) (fun j hj h => HK.out j hj (by omega)) (fun h => absurd h (by simp))]
set_option maxRecDepth 100000 in
set_option maxHeartbeats 2000000 in
theorem run_ld (s : ByteArray) (w : World) (hs : s.size ≤ 281474976710656) :
    Calls Tryz.prog 14 #[.string s, .func (.func 41) #[] #[]] w fun e w' => e = .returned (.int .i64 (runL ldB s.data.toList : Nat)) ∧ w' = w := by
  have T := Lib.hid (ld_any)
  go_enter Tryz.func14, Tryz.ntmps14
  go_wp2
  go_loopw [8] (fun i wr => ∃ k : Nat, i = .int .i64 k ∧ k ≤ s.size ∧ wr = w ∧ Hid (∀ j (hj : j < s.data.toList.length), j < k → ldB s.data.toList[j] = true)) (fun i _ => s.size - (intOf i).toNat)
  case atStart => exact ⟨0, by simp, by omega, rfl, Lib.hid (fun j _ h => absurd h (by omega))⟩
  case round =>
    obtain ⟨k, rfl, hk, rfl, HK⟩ := hrel
    by_cases hlt : k < s.size
    · have t1 : decide ((k : Int) < (s.size : Int)) = true := decide_eq_true (by omega)
      obtain ⟨b, hb⟩ : ∃ b, ldB s[k] = b := ⟨_, rfl⟩
      have C := Lib.hid (T.out s[k] wr)
      rw [hb] at C
      have HB := Lib.hid hb; clear hb
      cases b
      · go_wp2_with fail
        refine C.out.mono ?_
        rintro e w1 ⟨rfl, rfl⟩
        go_wp2
        go_ret
        refine ⟨ret_int ?_, rfl⟩
        rw [runL_drop (k := k) hlt HK.out HB.out]
      · go_wp2_with fail
        refine C.out.mono ?_
        rintro e w1 ⟨rfl, rfl⟩
        go_wp2
        go_roundw
        case rel =>
          refine ⟨k + 1, by simp, by omega, trivial, Lib.hid (fun j hj hjk => ?_)⟩
          rcases Nat.lt_or_ge j k with h | h
          · exact HK.out j hj h
          · obtain rfl : j = k := by omega
            exact HB.out
        case measure => simp [intOf]; omega
    · have t1 : decide ((k : Int) < (s.size : Int)) = false := decide_eq_false (by omega)
      have hke : k = s.size := by omega
      go_wp2
      go_ret
      refine ⟨ret_int ?_, rfl⟩
      rw [runL_eq s.data.toList s.size (Nat.le_refl _) (fun j hj h => HK.out j hj (by omega)) (fun h => absurd h (by simp))]
set_option maxRecDepth 100000 in
set_option maxHeartbeats 2000000 in
theorem run_line (s : ByteArray) (w : World) (hs : s.size ≤ 281474976710656) :
    Calls Tryz.prog 14 #[.string s, .func (.func 17) #[] #[]] w fun e w' => e = .returned (.int .i64 (runL lineB s.data.toList : Nat)) ∧ w' = w := by
  have T := Lib.hid (line_any)
  go_enter Tryz.func14, Tryz.ntmps14
  go_wp2
  go_loopw [8] (fun i wr => ∃ k : Nat, i = .int .i64 k ∧ k ≤ s.size ∧ wr = w ∧ Hid (∀ j (hj : j < s.data.toList.length), j < k → lineB s.data.toList[j] = true)) (fun i _ => s.size - (intOf i).toNat)
  case atStart => exact ⟨0, by simp, by omega, rfl, Lib.hid (fun j _ h => absurd h (by omega))⟩
  case round =>
    obtain ⟨k, rfl, hk, rfl, HK⟩ := hrel
    by_cases hlt : k < s.size
    · have t1 : decide ((k : Int) < (s.size : Int)) = true := decide_eq_true (by omega)
      obtain ⟨b, hb⟩ : ∃ b, lineB s[k] = b := ⟨_, rfl⟩
      have C := Lib.hid (T.out s[k] wr)
      rw [hb] at C
      have HB := Lib.hid hb; clear hb
      cases b
      · go_wp2_with fail
        refine C.out.mono ?_
        rintro e w1 ⟨rfl, rfl⟩
        go_wp2
        go_ret
        refine ⟨ret_int ?_, rfl⟩
        rw [runL_drop (k := k) hlt HK.out HB.out]
      · go_wp2_with fail
        refine C.out.mono ?_
        rintro e w1 ⟨rfl, rfl⟩
        go_wp2
        go_roundw
        case rel =>
          refine ⟨k + 1, by simp, by omega, trivial, Lib.hid (fun j hj hjk => ?_)⟩
          rcases Nat.lt_or_ge j k with h | h
          · exact HK.out j hj h
          · obtain rfl : j = k := by omega
            exact HB.out
        case measure => simp [intOf]; omega
    · have t1 : decide ((k : Int) < (s.size : Int)) = false := decide_eq_false (by omega)
      have hke : k = s.size := by omega
      go_wp2
      go_ret
      refine ⟨ret_int ?_, rfl⟩
      rw [runL_eq s.data.toList s.size (Nat.le_refl _) (fun j hj h => HK.out j hj (by omega)) (fun h => absurd h (by simp))]
theorem blkB_index (u : UInt8) : decide ((0 : Int) ≤ Lib.indexByte [32, 9, 13, 10, 44] u) = blkB u := by
  revert u; refine u8_all ?_; decide +kernel
theorem toNat_u8 (u : UInt8) : ((u.toNat : Int)).toNat.toUInt8 = u := by simp
set_option maxRecDepth 100000 in
theorem blk_any : Tests 15 blkB := by
  intro u w
  have C := Lib.hid (index_any ⟨#[32, 9, 13, 10, 44]⟩ (u.toNat : Int) w)
  rw [toNat_u8] at C
  have E := Lib.hid (blkB_index u)
  have h1 := u8_lt u; have h2 := u8_ge u
  have hg := Lib.indexByte_ge [32, 9, 13, 10, 44] u
  have e0 : (⟨#[32, 9, 13, 10, 44]⟩ : ByteArray).data.toList = [32, 9, 13, 10, 44] := rfl
  rw [e0] at C
  generalize (u.toNat : Int) = n at *
  generalize Lib.indexByte [32, 9, 13, 10, 44] u = m at *
  by_cases hm : (0 : Int) ≤ m <;> (
    go_enter Tryz.func15, Tryz.ntmps15
    go_wp2_with fail
    refine C.out.mono ?_
    rintro e w1 ⟨rfl, rfl⟩
    go_wp2
    go_ret
    refine ⟨ret_bool ?_, rfl⟩
    first | (rw [← E.out]; done) | (rw [← E.out]; simp [hm]))
set_option maxRecDepth 100000 in
set_option maxHeartbeats 2000000 in
theorem run_blk (s : ByteArray) (w : World) (hs : s.size ≤ 281474976710656) :
    Calls Tryz.prog 14 #[.string s, .func (.func 15) #[] #[]] w fun e w' => e = .returned (.int .i64 (runL blkB s.data.toList : Nat)) ∧ w' = w := by
  have T := Lib.hid (blk_any)
  go_enter Tryz.func14, Tryz.ntmps14
  go_wp2
  go_loopw [8] (fun i wr => ∃ k : Nat, i = .int .i64 k ∧ k ≤ s.size ∧ wr = w ∧ Hid (∀ j (hj : j < s.data.toList.length), j < k → blkB s.data.toList[j] = true)) (fun i _ => s.size - (intOf i).toNat)
  case atStart => exact ⟨0, by simp, by omega, rfl, Lib.hid (fun j _ h => absurd h (by omega))⟩
  case round =>
    obtain ⟨k, rfl, hk, rfl, HK⟩ := hrel
    by_cases hlt : k < s.size
    · have t1 : decide ((k : Int) < (s.size : Int)) = true := decide_eq_true (by omega)
      obtain ⟨b, hb⟩ : ∃ b, blkB s[k] = b := ⟨_, rfl⟩
      have C := Lib.hid (T.out s[k] wr)
      rw [hb] at C
      have HB := Lib.hid hb; clear hb
      cases b
      · go_wp2_with fail
        refine C.out.mono ?_
        rintro e w1 ⟨rfl, rfl⟩
        go_wp2
        go_ret
        refine ⟨ret_int ?_, rfl⟩
        rw [runL_drop (k := k) hlt HK.out HB.out]
      · go_wp2_with fail
        refine C.out.mono ?_
        rintro e w1 ⟨rfl, rfl⟩
        go_wp2
        go_roundw
        case rel =>
          refine ⟨k + 1, by simp, by omega, trivial, Lib.hid (fun j hj hjk => ?_)⟩
          rcases Nat.lt_or_ge j k with h | h
          · exact HK.out j hj h
          · obtain rfl : j = k := by omega
            exact HB.out
        case measure => simp [intOf]; omega
    · have t1 : decide ((k : Int) < (s.size : Int)) = false := decide_eq_false (by omega)
      have hke : k = s.size := by omega
      go_wp2
      go_ret
      refine ⟨ret_int ?_, rfl⟩
      rw [runL_eq s.data.toList s.size (Nat.le_refl _) (fun j hj h => HK.out j hj (by omega)) (fun h => absurd h (by simp))]
/-! ### Strings as lists of bytes -/
theorem ba_eq {t : ByteArray} {l : List UInt8} (h : t.data.toList = l) : t = ⟨l.toArray⟩ := by
  subst h; rfl
theorem extract_list (s : ByteArray) (a b : Nat) : (s.extract a b).data.toList = (s.data.toList.drop a).take (b - a) := by
  rw [ByteArray.data_extract, Array.toList_extract, List.extract_eq_take_drop]
theorem extract_end (s : ByteArray) (a : Nat) : (s.extract a s.size).data.toList = s.data.toList.drop a := by
  rw [extract_list, List.take_of_length_le]
  rw [List.length_drop]; exact Nat.le_refl _
theorem extract_pre (s : ByteArray) (b : Nat) : (s.extract 0 b).data.toList = s.data.toList.take b := by
  rw [extract_list, List.drop_zero, Nat.sub_zero]
theorem get_list (s : ByteArray) (k : Nat) (h : k < s.size) : s[k] = s.data.toList[k] := rfl
end Go.Proofs.YtgephneppgcnlaaGreatDoor
