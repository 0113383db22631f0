/- . -/
import Derived.Test.YtnkpoddbbdmipaaGreatDoorTApKiB
import Derived.Test.YtnkpoddbbdmipaaGreatDoorTApText
import Derived.Test.YtnkpoddbbdmipaaGreatDoorTApPng
import Derived.Laws.IdiomStrings
namespace Go.Proofs.YtnkpoddbbdmipaaGreatDoor
open Go Go.RowKit
open Go.Lib (hid)
set_option linter.unusedVariables false
set_option linter.unusedSimpArgs false
theorem digS_l20 {n : Nat} (h : n < 18446744073709551616) : (digS n).length ≤ 20 := digS_len 19 n (by omega)
set_option maxRecDepth 100000 in
set_option maxHeartbeats 4000000 in
theorem digits_any : ∀ (m n : Nat), n ≤ m → n < 18446744073709551616 → ∀ (w : World), Calls Tryz.prog 81 #[.int .u64 (n : Int)] w (fun e w' => e = .returned (.string ⟨(digS n).toArray⟩) ∧ Only (fun _ => False) w w')
 | m, n, hm, hn, w => by
  by_cases hl : n < 10
  ·have t1 : decide ((n : Int) < 10) = true := decide_eq_true (by omega); have e1 := digS_lt hl; obtain ⟨c, hc⟩ := eX (UInt8.ofNat (48 + n)); have hcv : (c.toNat : Int) = 48 + (n : Int) := by rw [← hc, UInt8.toNat_ofNat', Nat.mod_eq_of_lt (by omega)]; omega
   rw [hc] at e1; obtain ⟨gb, hgb⟩ := eX (w.heap.size); have hbx := heap_new w (.cells #[.int .u8 (48 + (n : Int))] 5); rw [hgb] at hbx; have cA : (convert 117 9 (.slice (some ⟨gb, 0, none⟩) 1 1)).run Tryz.prog (w.alloc (.cells #[.int .u8 (48 + (n : Int))] 5)) = .ok (.string ⟨#[c]⟩) (w.alloc (.cells #[.int .u8 (48 + (n : Int))] 5)) := by
    refine run_convert_bytes_back _ _ _ 5 _ 1 [c] (by kernel_rfl) (by kernel_rfl) (by kernel_rfl) (fun j hj => ?_)
    rw [addr_add]
    match j, hj with
    | 0, _ => simp [World.cell?, hbx]; exact hcv.symm
   rw [← hgb] at cA; have HA := hid ((Only.refl (fun _ => False) w).alloc (.cells #[.int .u8 (48 + (n : Int))] 5)); rw [e1]; clear hbx hgb hcv hc e1
   go_enter Tryz.func81, Tryz.ntmps81
   go_wp2_with fail
   clear cA
   go_ret
   exact ⟨rfl, HA.out⟩
  ·have t1 : decide ((n : Int) < 10) = false := decide_eq_false (by omega); have e1 := digS_ge hl; have e2 := digS_lt (n := n % 10) (by omega); rw [← e2] at e1; have HQ := hid (fun wx => digits_any (n / 10) (n / 10) (Nat.le_refl _) (by omega) wx); have HR := hid (fun wx => digits_any (n % 10) (n % 10) (Nat.le_refl _) (by omega) wx); have l1 := digS_l20 (n := n / 10) (by omega); have l2 := digS_l20 (n := n % 10) (by omega); have q1 : (n : Int) / 10 = ((n / 10 : Nat) : Int) := by omega
   have q2 : (n : Int) % 10 = ((n % 10 : Nat) : Int) := by omega
   rw [e1]; have Q1 := hid q1; have Q2 := hid q2; clear e1 e2 q1 q2
   go_enter Tryz.func81, Tryz.ntmps81
   go_wp2_with fail
   rw [Q1.out]; refine (HQ.out w).mono ?_
   rintro e w2 ⟨rfl, O2⟩; have HO2 := hid O2; clear O2
   go_wp2_with fail
   rw [Q2.out]; refine (HR.out w2).mono ?_
   rintro e w3 ⟨rfl, O3⟩; have HO3 := hid (HO2.out.trans O3); clear O3
   go_wp2_with fail
   go_ret
   rw [cat_list]; exact ⟨rfl, HO3.out⟩
termination_by _ n => n
decreasing_by all_goals omega
set_option maxRecDepth 100000 in
set_option maxHeartbeats 4000000 in
theorem num_any (n : Int) (h0 : -9223372036854775808 ≤ n) (h1 : n ≤ 9223372036854775807) (w : World) : Calls Tryz.prog 57 #[.int .i64 n] w (fun e w' => e = .returned (.string ⟨(numS n).toArray⟩) ∧ Only (fun _ => False) w w') := by
 have HD := hid (fun wx => digits_any n.natAbs n.natAbs (Nat.le_refl _) (by omega) wx); have hl := digS_l20 (n := n.natAbs) (by omega)
 by_cases hn : n < 0
 ·have t1 : decide (n < 0) = true := decide_eq_true hn; have e1 : -(n + 1) + 1 = ((n.natAbs : Nat) : Int) := by omega
  have e2 : numS n = [45] ++ digS n.natAbs := by unfold numS; rw [t1]; rfl
  have E1 := hid e1; have E2 := hid e2; clear e1 e2
  go_enter Tryz.func57, Tryz.ntmps57
  go_wp2_with fail
  rw [E1.out]; refine (HD.out w).mono ?_
  rintro e w2 ⟨rfl, O2⟩; have HO2 := hid O2; clear O2
  go_wp2_with fail
  go_ret
  rw [E2.out, ← cat_list]; exact ⟨rfl, HO2.out⟩
 ·have t1 : decide (n < 0) = false := decide_eq_false hn; have e1 : n = ((n.natAbs : Nat) : Int) := by omega
  have e2 : numS n = digS n.natAbs := by unfold numS; rw [t1]; rfl
  have E1 := hid e1; rw [e2]; have hn0 : 0 ≤ n := by omega
  clear e1 e2
  go_enter Tryz.func57, Tryz.ntmps57
  go_wp2_with fail
  have hd := HD.out w; rw [← E1.out] at hd; refine hd.mono ?_
  rintro e w2 ⟨rfl, O2⟩; have HO2 := hid O2; clear O2 hd
  go_wp2_with fail
  go_ret
  exact ⟨rfl, HO2.out⟩
theorem pw_one (s : ByteArray) (k : Nat) (h : k < s.size) : s.extract k (k + 1) = ⟨#[s[k]]⟩ := by
 have e := ba_eq (t := s.extract k (k + 1)) (l := [s[k]]) (by rw [extract_list, drop_get s k h, Nat.add_sub_cancel_left]; rfl); exact e
theorem esc1_len (c : UInt8) : (esc1 c).length ≤ 2 := by
  unfold esc1; repeat' split
  all_goals simp
theorem escS_len : ∀ l : List UInt8, (escS l).length ≤ 2 * l.length
 | [] => by simp [escS]
 | c :: l => by
  have := escS_len l; have := esc1_len c; rw [escS_cons, List.length_append, List.length_cons]; omega
theorem take_get (s : ByteArray) (k : Nat) (h : k < s.size) : s.data.toList.take (k + 1) = s.data.toList.take k ++ [s[k]] := by
 rw [List.take_succ_eq_append_getElem (show k < s.data.toList.length from h)]; rfl
set_option maxRecDepth 100000 in
set_option maxHeartbeats 4000000 in
theorem quote_any (s : ByteArray) (hs : s.size ≤ 1000000000000) (w : World) : Calls Tryz.prog 26 #[.string s] w (fun e w' => e = .returned (.string ⟨(quoS s.data.toList).toArray⟩) ∧ Only (fun _ => False) w w') := by
 go_enter Tryz.func26, Tryz.ntmps26
 go_wp2_with fail
 go_loopw [3, 4] (fun x y wr => ∃ k : Nat, y = .int .i64 (k : Int) ∧ k ≤ s.size ∧ x = .string ⟨([34] ++ escS (s.data.toList.take k)).toArray⟩ ∧ wr = w) (fun _ y _ => s.size - (intOf y).toNat)
 case atStart => exact ⟨0, rfl, by omega, rfl, rfl⟩
 case round =>
  obtain ⟨k, rfl, hk, rfl, rfl⟩ := hrel; have hl := escS_len (s.data.toList.take k); rw [List.length_take] at hl; have hle : ([34] ++ escS (s.data.toList.take k)).length ≤ 3000000000000 := by
   rw [List.length_append, List.length_singleton]; omega
  by_cases hlt : k < s.size
  ·have t1 : decide ((k : Int) < (s.size : Int)) = true := decide_eq_true (by omega); have hnx : [34] ++ escS (s.data.toList.take (k + 1)) = [34] ++ escS (s.data.toList.take k) ++ esc1 s[k] := by
    rw [take_get s k hlt, escS_app, escS_cons]
    show [34] ++ (escS (s.data.toList.take k) ++ (esc1 s[k] ++ [])) = _
    rw [List.append_nil, List.append_assoc]
   have HNX := hid hnx; have HONE := hid (pw_one s k hlt)
   generalize ([34] ++ escS (s.data.toList.take k)) = acc at *
   clear hl hnx
   by_cases c1 : (s[k].toNat : Int) = 10
   ·have t2 : decide ((s[k].toNat : Int) = 10) = true := decide_eq_true c1; have e : esc1 s[k] = [92, 110] := by unfold esc1; rw [if_pos (by omega)]
    have HE := hid (HNX.out.trans (congrArg (acc ++ ·) e)); clear e
    go_wp2_with fail
    go_roundw
    case rel => exact ⟨k + 1, by simp, by omega, by rw [HE.out, ← cat_list], by first | rfl | trivial⟩
    case measure => simp [intOf]; omega
   have t2 : decide ((s[k].toNat : Int) = 10) = false := decide_eq_false c1
   by_cases c2 : (s[k].toNat : Int) = 9
   ·have t3 : decide ((s[k].toNat : Int) = 9) = true := decide_eq_true c2; have e : esc1 s[k] = [92, 116] := by unfold esc1; rw [if_neg (by omega), if_pos (by omega)]
    have HE := hid (HNX.out.trans (congrArg (acc ++ ·) e)); clear e
    go_wp2_with fail
    go_roundw
    case rel => exact ⟨k + 1, by simp, by omega, by rw [HE.out, ← cat_list], by first | rfl | trivial⟩
    case measure => simp [intOf]; omega
   have t3 : decide ((s[k].toNat : Int) = 9) = false := decide_eq_false c2
   by_cases c3 : (s[k].toNat : Int) = 34
   ·have t4 : decide ((s[k].toNat : Int) = 34) = true := decide_eq_true c3; have e0 : s[k] = 34 := UInt8.toNat_inj.1 (by show s[k].toNat = 34; omega); have e : esc1 s[k] = [92, 34] := by rw [e0]; rfl
    have HE := hid (HNX.out.trans (congrArg (acc ++ ·) e)); clear e e0
    go_wp2_with fail
    go_roundw
    case rel => exact ⟨k + 1, by simp, by omega, by rw [HE.out, ← cat_list], by first | rfl | trivial⟩
    case measure => simp [intOf]; omega
   have t4 : decide ((s[k].toNat : Int) = 34) = false := decide_eq_false c3
   by_cases c4 : (s[k].toNat : Int) = 92
   ·have t5 : decide ((s[k].toNat : Int) = 92) = true := decide_eq_true c4; have e0 : s[k] = 92 := UInt8.toNat_inj.1 (by show s[k].toNat = 92; omega); have e : esc1 s[k] = [92, 92] := by rw [e0]; rfl
    have HE := hid (HNX.out.trans (congrArg (acc ++ ·) e)); clear e e0
    go_wp2_with fail
    go_roundw
    case rel => exact ⟨k + 1, by simp, by omega, by rw [HE.out, ← cat_list], by first | rfl | trivial⟩
    case measure => simp [intOf]; omega
   have t5 : decide ((s[k].toNat : Int) = 92) = false := decide_eq_false c4; have e : esc1 s[k] = [s[k]] := by unfold esc1; rw [if_neg (by omega), if_neg (by omega), if_neg (by omega)]
   have HE := hid (HNX.out.trans (congrArg (acc ++ ·) e)); clear e
   go_wp2_with fail
   go_roundw
   case rel => exact ⟨k + 1, by simp, by omega, by rw [HE.out, HONE.out, ← cat_list], by first | rfl | trivial⟩
   case measure => simp [intOf]; omega
  ·have t1 : decide ((k : Int) < (s.size : Int)) = false := decide_eq_false (by omega); have hke : k = s.size := by omega
   subst hke; have ht : s.data.toList.take s.size = s.data.toList := List.take_length; rw [ht] at hle ⊢; have HQ := hid (show quoS s.data.toList = [34] ++ escS s.data.toList ++ [34] from rfl)
   generalize ([34] ++ escS s.data.toList) = acc at *
   clear hl ht
   go_wp2_with fail
   go_ret
   rw [HQ.out, ← cat_list]; exact ⟨rfl, oR⟩
theorem sep_app (g : List It) {a : List (List It)} (b : List (List It)) (h : a ≠ []) : sepI g (a ++ b) = sepI g a ++ b.flatMap (fun x => g ++ x) := by
 cases a with
 | nil => exact absurd rfl h
 | cons x a => show x ++ (a ++ b).flatMap _ = x ++ a.flatMap _ ++ _; rw [List.flatMap_append, List.append_assoc]
theorem sep_le (g : List It) (l : List (List It)) (i : Nat) : (ren (sepI g (l.take i))).length ≤ (ren (sepI g l)).length := by
 by_cases h : l.take i = []
 ·rw [h]; simp [sepI, ren]
 ·conv => rhs; rw [← List.take_append_drop i l]
  rw [sep_app g _ h, ren_app, List.length_append]; omega
theorem sep_succ (g : List It) (l : List (List It)) (i : Nat) (h : i < l.length) : ren (sepI g (l.take (i + 1))) = (if 0 < i then ren (sepI g (l.take i)) ++ ren g else []) ++ ren l[i] := by
 rw [List.take_succ_eq_append_getElem h, sepI_snoc]
 by_cases h0 : 0 < i
 ·have hne : l.take i ≠ [] := fun e => by
   have h2 : (l.take i).length = 0 := congrArg List.length e; rw [List.length_take] at h2; omega
  rw [if_neg hne, if_pos h0, ren_app, ren_app]
 ·have : i = 0 := by omega
  subst this; simp
theorem gap_ren : ren gapI = [44, 32] := rfl
theorem sep_zero (g : List It) (l : List (List It)) : ren (sepI g (l.take 0)) = [] := by rw [List.take_zero]; rfl
theorem cells3_pw {w : World} {g p : Nat} {x y z : Value} (h : ∀ j q, ([x, y, z] : List Value)[j]? = some q → w.cell? ⟨g, p + j, none⟩ = some q) : w.cell? ⟨g, p, none⟩ = some x ∧ w.cell? ⟨g, p + 1, none⟩ = some y ∧ w.cell? ⟨g, p + 2, none⟩ = some z := ⟨h 0 x rfl, h 1 y rfl, h 2 z rfl⟩
end Go.Proofs.YtnkpoddbbdmipaaGreatDoor
