/- . -/
import Derived.Test.YtnkpoddbbdmipaaGreatDoorUaTyr
import Derived.Test.YtnkpoddbbdmipaaGreatDoorUaSmr
namespace Go.Proofs.YtnkpoddbbdmipaaGreatDoor
open Go Go.RowKit
open Go.Lib (hid)
set_option linter.unusedVariables false
set_option linter.unusedSimpArgs false
def smallB : Nat → TT → Bool
 | 0, _ => false
 | n + 1, .mk s of b => match of with
  | [] => true
  | [t] => decide (s = []) && smallB n t
  | _ :: _ :: _ => false
def toTR : TT → TR
 | .mk s of b => match of with
  | [] => .nm s b
  | t :: _ => .ls (toTR t) b
theorem ttC_small : ∀ (n : Nat) (t : TT), smallB n t = true → trC (toTR t) = ttC t
 | 0, _, h => by cases h
 | n + 1, .mk s of b, h => by
  rw [ttC, ttCs_map]
  match of, h with
  | [], h => simp [toTR, trC]
  | [t], h =>
   simp only [smallB, Bool.and_eq_true, decide_eq_true_eq] at h; simp only [toTR, trC, h.1, ttC_small n t h.2, List.map_cons, List.map_nil]
  | _ :: _ :: _, h => cases h
theorem tt_cells {w : World} {G : Nat → Prop} {s : List UInt8} {of : List TT} {b : Bool} {cs : List Value} (h : CellsAt w G (ttC (.mk s of b)) cs) : ∃ v, cs = [.string ⟨s.toArray⟩, v, .bool b] ∧ CellAt w G (.row 3 (of.map ttC)) v := by
 rw [ttC, ttCs_map] at h; obtain ⟨v1, us, e1, h1, g1⟩ := cells_cons h; obtain ⟨v2, us2, e2, h2, g2⟩ := cells_cons g1; obtain ⟨v3, us3, e3, h3, g3⟩ := cells_cons g2; have := lit_eq h1; subst this; have := lit_eq h3; subst this; simp only [CellsAt] at g3; exact ⟨v2, by rw [e1, e2, e3, g3], h2⟩
set_option maxRecDepth 100000 in
set_option maxHeartbeats 8000000 in
theorem small_any : ∀ (n : Nat) (t : TT) (G : Nat → Prop) (w : World) (cs : List Value), n ≤ 1000 → CellsAt w G (ttC t) cs →
  Calls Tryz.prog 20 #[.agg cs.toArray, .int .i64 (n : Int)] w (fun e w' => e = .returned (.bool (smallB n t)) ∧ Only (fun _ => False) w w')
 | n, .mk s of b, G, w, cs, hn, h => by
  obtain ⟨v, rfl, hv⟩ := tt_cells h; obtain ⟨a, c, rfl, k1, k2, k3⟩ := rows_at hv; obtain ⟨L, hL⟩ := eX (of.length); rw [hL] at k1 ⊢; obtain ⟨bA, hbA⟩ := eX (w.heap.size); obtain ⟨wb, hwb⟩ := eX (w.alloc (.cells #[.string ⟨s.toArray⟩, .slice a L c, .bool b] 41)); have ob : Only (fun _ => False) w wb := by rw [← hwb]; exact (Only.refl _ w).alloc _
  have hx1 : wb.heap[bA]? = some (.cells #[.string ⟨s.toArray⟩, .slice a L c, .bool b] 41 (0, 0)) := by rw [← hwb, ← hbA]; exact heap_new w _
  obtain ⟨c0, c1, c2, -⟩ := boxN3 hx1; have HOB := hid ob; have HWB := hid hwb; have HBA := hid hbA; clear hx1 ob hwb hbA h hv
  match n, hn with
  | 0, _ =>
   have hr : smallB 0 (.mk s of b) = false := rfl; rw [hr]; clear hr k3 hL
   go_enter Tryz.func20, Tryz.ntmps20
   go_upto_region 1 with (fail)
   rw [HWB.out, HBA.out]; clear HWB HBA
   go_wp2_with fail
   clear c0 c1 c2
   go_ret
   exact ⟨rfl, HOB.out⟩
  | n + 1, hn =>
   have t1 : decide (((n + 1 : Nat) : Int) > 0) = true := decide_eq_true (by omega)
   match of, hL, k3 with
   | [], hL, k3 =>
    have hr : smallB (n + 1) (.mk s [] b) = true := rfl; rw [hr]; have hL0 : L = 0 := hL.symm; clear hr k3 hL; subst hL0
    go_enter Tryz.func20, Tryz.ntmps20
    go_upto_region 1 with (fail)
    rw [HWB.out, HBA.out]; clear HWB HBA
    go_wp2_with fail
    clear c0 c1 c2
    go_ret
    exact ⟨rfl, HOB.out⟩
   | t0 :: t1' :: r, hL, k3 =>
    have hr : smallB (n + 1) (.mk s (t0 :: t1' :: r) b) = false := rfl; rw [hr]; have hL2 : 2 ≤ L := by rw [← hL]; simp
    have t2 : decide ((L : Int) < 2) = false := decide_eq_false (by omega); clear hr k3 hL
    go_enter Tryz.func20, Tryz.ntmps20
    go_upto_region 1 with (fail)
    rw [HWB.out, HBA.out]; clear HWB HBA
    go_wp2_with fail
    clear c0 c1 c2
    go_ret
    exact ⟨rfl, HOB.out⟩
   | [t], hL, k3 =>
    have hL1 : L = 1 := hL.symm; clear hL; subst hL1; obtain ⟨g, o, xs, rfl, hg, q1, q2⟩ := k3 0 (by simp); have q2 : CellsAt w G (ttC t) xs := q2; rw [Nat.zero_mul, Nat.add_zero] at q1
    by_cases hs : s = []
    ·subst hs; have hr : smallB (n + 1) (.mk [] [t] b) = smallB n t := by simp [smallB]
     rw [hr]; have J := hid (small_any n t G wb xs (by omega) (CellsAt.only HOB.out (fun _ _ h => h) _ _ q2)); obtain ⟨s', of', b'⟩ := t; obtain ⟨v', rfl, hv'⟩ := tt_cells q2; obtain ⟨a', c', rfl, -, -, -⟩ := rows_at hv'; obtain ⟨e0, e1, e2⟩ := cells3_of q1; have e0 := keepc HOB.out e0; have e1 := keepc HOB.out e1; have e2 := keepc HOB.out e2; have hsub : ((n + 1 : Nat) : Int) - 1 = (n : Int) := by omega
     generalize smallB n (TT.mk s' of' b') = R at *
     have HSUB := hid hsub; clear hr k3 q1 q2 hv' hsub
     go_enter Tryz.func20, Tryz.ntmps20
     go_upto_region 1 with (fail)
     rw [HWB.out, HBA.out]; clear HWB HBA
     go_wp2_with fail
     refine J.out.mono ?_
     rintro e w2 ⟨rfl, o2⟩; have HO2 := hid (HOB.out.trans o2); clear o2 c0 c1 c2 e0 e1 e2
     go_wp2_with fail
     go_ret
     exact ⟨rfl, HO2.out⟩
    ·have hr : smallB (n + 1) (.mk s [t] b) = false := by simp [smallB, hs]
     rw [hr]; have z1 : (s == []) = false := by simpa using hs
     have z2 : s.isEmpty = false := by simpa using hs
     clear hr k3 q1 q2 hs
     go_enter Tryz.func20, Tryz.ntmps20
     go_upto_region 1 with (fail)
     rw [HWB.out, HBA.out]; clear HWB HBA
     go_wp2_with fail
     clear c0 c1 c2
     go_ret
     exact ⟨rfl, HOB.out⟩
def plainL (c : UInt8) : Bool := decide (97 ≤ c.toNat) && decide (c.toNat ≤ 122)
def TRz : TR → Prop
 | .nm s _ => s.length ≤ 140737488351232
 | .ls t _ => TRz t
theorem trz_of : ∀ (n : Nat) (t : TT), TSz t → smallB n t = true → TRz (toTR t)
 | 0, _, _, h => by cases h
 | n + 1, .mk s of b, hz, h => by
  cases hz with
  | mk _ _ _ hs ho =>
  match of, h, ho with
  | [], h, ho => simpa [toTR, TRz] using hs
  | [t], h, ho =>
   simp only [smallB, Bool.and_eq_true, decide_eq_true_eq] at h; simp only [toTR, TRz]; exact trz_of n t (ho t (by simp)) h.2
  | _ :: _ :: _, h, ho => cases h
def plainB : TR → Bool
 | .nm s _ => s.all plainL && !s.isEmpty
 | .ls t _ => plainB t
theorem tr_cells_nm {w : World} {G : Nat → Prop} {s : List UInt8} {b : Bool} {cs : List Value} (h : CellsAt w G (trC (.nm s b)) cs) : ∃ a c, cs = [.string ⟨s.toArray⟩, .slice a 0 c, .bool b] := by
 rcases tr_cells h with rfl | ⟨a, c, rfl⟩
 ·exact ⟨_, _, rfl⟩
 ·exact ⟨_, _, rfl⟩
set_option maxRecDepth 100000 in
set_option maxHeartbeats 8000000 in
theorem plain_any : ∀ (t : TR) (G : Nat → Prop) (w : World) (cs : List Value), CellsAt w G (trC t) cs → TRz t →
  Calls Tryz.prog 23 #[.agg cs.toArray] w (fun e w' => e = .returned (.bool (plainB t)) ∧ Only (fun _ => False) w w')
 | .nm s b, G, w, cs, h, hz => by
  obtain ⟨a, c, rfl⟩ := tr_cells_nm h; have hz : s.length ≤ 140737488351232 := hz; obtain ⟨S, hS⟩ : ∃ S : ByteArray, (⟨s.toArray⟩ : ByteArray) = S := ⟨_, rfl⟩; have hSs : S.data.toList = s := by rw [← hS]
  rw [hS]; obtain ⟨bA, hbA⟩ := eX (w.heap.size); obtain ⟨wb, hwb⟩ := eX (w.alloc (.cells #[.string S, .slice a 0 c, .bool b] 41)); have ob : Only (fun _ => False) w wb := by rw [← hwb]; exact (Only.refl _ w).alloc _
  have hx1 : wb.heap[bA]? = some (.cells #[.string S, .slice a 0 c, .bool b] 41 (0, 0)) := by rw [← hwb, ← hbA]; exact heap_new w _
  obtain ⟨c0, c1, c2, -⟩ := boxN3 hx1; have hsl : S.data.toList.length = S.size := rfl; have hSb : S.size ≤ 140737488351232 := by rw [← hsl, hSs]; exact hz
  clear hz; have HSL := hid hsl; have HSs := hid hSs; have HS := hid hS; have HOB := hid ob; have HWB := hid hwb; have HBA := hid hbA; have HC := hid (And.intro c0 c1); have hpb : plainB (.nm s b) = (S.data.toList.all plainL && !S.data.toList.isEmpty) := by rw [hSs]; rfl
  have HPB := hid hpb
  generalize plainB (.nm s b) = R at *
  clear hx1 ob hwb hbA h hS hSs hsl hpb
  go_enter Tryz.func23, Tryz.ntmps23
  go_upto_region 1 with (fail)
  rw [HWB.out, HBA.out]; clear HWB HBA
  go_wp2_with fail
  clear c0 c1 c2
  go_loopw [3] (fun y wr => ∃ k : Nat, y = .int .i64 (k : Int) ∧ Hid (k ≤ S.size ∧ (S.data.toList.take k).all plainL = true ∧ wr = wb)) (fun y _ => S.size - (intOf y).toNat)
  case atStart => exact ⟨0, rfl, hid ⟨by omega, rfl, rfl⟩⟩
  case round =>
   obtain ⟨k, rfl, hjj⟩ := hrel; obtain ⟨hk, hall, hw⟩ := hjj.out; have hw := hw.symm; subst hw; obtain ⟨c0, c1⟩ := HC.out; have HALL := hid hall; clear hjj hall
   by_cases hlt : k < S.size
   ·have t1 : decide ((k : Int) < (S.size : Int)) = true := decide_eq_true (by omega); have hnx : S.data.toList.take (k + 1) = S.data.toList.take k ++ [S[k]] := by
     rw [List.take_succ_eq_append_getElem (show k < S.data.toList.length from hlt)]; rfl
    have hmem : S[k] ∈ S.data.toList := List.getElem_mem (show k < S.data.toList.length from hlt)
    by_cases h97 : S[k].toNat < 97
    ·have hr : R = false := by
      rw [HPB.out, Bool.and_eq_false_iff]
      left
      rw [List.all_eq_false]; exact ⟨S[k], hmem, by unfold plainL; simp; omega⟩
     have t2 : decide ((S[k].toNat : Int) < 97) = true := decide_eq_true (by omega); clear hnx hmem h97
     go_wp2_with fail
     clear c0 c1
     go_ret
     exact ⟨by first | rfl | (rw [hr]; rfl), HOB.out⟩
    ·have t2 : decide ((S[k].toNat : Int) < 97) = false := decide_eq_false (by omega)
     by_cases h122 : 122 < S[k].toNat
     ·have hr : R = false := by
       rw [HPB.out, Bool.and_eq_false_iff]
       left
       rw [List.all_eq_false]; exact ⟨S[k], hmem, by unfold plainL; simp; omega⟩
      have t3 : decide ((S[k].toNat : Int) > 122) = true := decide_eq_true (by omega); clear hnx hmem h97 h122
      go_wp2_with fail
      clear c0 c1
      go_ret
      exact ⟨by first | rfl | (rw [hr]; rfl), HOB.out⟩
     ·have t3 : decide ((S[k].toNat : Int) > 122) = false := decide_eq_false (by omega)
      have HNEW := hid (show k + 1 ≤ S.size ∧ (S.data.toList.take (k + 1)).all plainL = true ∧ wb = wb from ⟨by omega, by
       rw [hnx, List.all_append, HALL.out]
       simp [plainL]; omega, rfl⟩)
      clear hnx hmem h97 h122
      go_wp2_with fail
      clear c0 c1
      go_roundw
      case rel => exact ⟨k + 1, by simp, hid ⟨HNEW.out.1, HNEW.out.2.1, by first | rfl | trivial⟩⟩
      case measure => simp [intOf]; omega
   ·have t1 : decide ((k : Int) < (S.size : Int)) = false := decide_eq_false (by omega); have hke : k = S.size := by omega
    have hall := HALL.out; rw [hke, ← HSL.out, List.take_length] at hall
    by_cases h0 : S.data.toList = []
    ·have hr : R = false := by rw [HPB.out, h0]; rfl
     have hS0 : S = ⟨#[]⟩ := by
      apply ByteArray.ext; apply Array.ext'; exact h0
     have HR := hid hr; clear hall h0 hke HALL hr HPB; subst hS0
     go_wp2_with fail
     clear c0 c1
     go_ret
     exact ⟨by rw [HR.out]; rfl, HOB.out⟩
    ·have hr : R = true := by
      rw [HPB.out, hall]; have : S.data.toList.isEmpty = false := by simpa using h0
      rw [this]; rfl
     have HR := hid hr; have HN0 := hid h0; clear hall h0 hke HALL hr HPB
     go_wp2_with fail
     clear c0 c1
     go_ret
     exact ⟨by
      rw [HR.out]
      show Ending.returned (.bool (!S.toList.isEmpty)) = _
      have h := HN0.out; rw [HSs.out] at h; rw [← HS.out]
      simpa using h, HOB.out⟩
 | .ls t b, G, w, cs, h, hz => by
  obtain ⟨v, rfl, hv⟩ := tr_ls_cells h; have hv : CellAt w G (.row 3 ([t].map trC)) v := hv; obtain ⟨a, c, rfl, k1, k2, k3⟩ := rows_at hv; obtain ⟨g, o, xs, rfl, -, q1, q2⟩ := k3 0 (by simp); have q2 : CellsAt w G (trC t) xs := q2; have hrec := fun (wx : World) (ox : Only (fun _ => False) w wx) => plain_any t G wx xs (CellsAt.only ox (fun _ _ h => h) _ _ q2) hz
  obtain ⟨s1, a1, l1, c1', b1, rfl⟩ := trC_form2 q2; rw [Nat.zero_mul, Nat.add_zero] at q1; obtain ⟨e0, e1', e2⟩ := cells3_of q1; simp only [List.length_cons, List.length_nil, Nat.zero_add] at k1 ⊢; obtain ⟨wb, hwb⟩ := eX (w.alloc (.cells #[.string ⟨#[]⟩, .slice (some ⟨g, o, none⟩) 1 c, .bool b] 41)); obtain ⟨bA, hbA⟩ := eX (w.heap.size); have ob : Only (fun _ => False) w wb := by rw [← hwb]; exact (Only.refl _ w).alloc _
  have hx1 : wb.heap[bA]? = some (.cells #[.string ⟨#[]⟩, .slice (some ⟨g, o, none⟩) 1 c, .bool b] 41 (0, 0)) := by rw [← hwb, ← hbA]; exact heap_new w _
  obtain ⟨c0, c1, c2, -⟩ := boxN3 hx1; have e0 := keepc ob e0; have e1' := keepc ob e1'; have e2 := keepc ob e2; have HREC := hid (hrec wb ob); have HOB := hid ob; have HWB := hid hwb; have HBA := hid hbA; rw [show plainB (.ls t b) = plainB t from rfl]
  generalize plainB t = R at *
  clear hx1 ob hwb hbA h hrec q1 q2 k3 hv
  go_enter Tryz.func23, Tryz.ntmps23
  go_upto_region 1 with (fail)
  rw [HWB.out, HBA.out]; clear HWB HBA
  go_wp2_with fail
  refine HREC.out.mono ?_
  rintro e w6 ⟨rfl, o6⟩; have HO6 := hid (HOB.out.trans o6); clear c0 c1 c2 e0 e1' e2 o6
  go_wp2_with fail
  go_ret
  exact ⟨rfl, HO6.out⟩
def trSame : TR → TR → Bool
 | .nm s b, .nm s' b' => decide (s = s') && decide (b = b')
 | .ls t b, .ls t' b' => trSame t t' && decide (b = b')
 | _, _ => false
theorem trSame_iff : ∀ (t u : TR), trSame t u = true ↔ t = u
 | .nm s b, .nm s' b' => by simp [trSame]
 | .ls t b, .ls t' b' => by
  simp only [trSame, Bool.and_eq_true, decide_eq_true_eq, trSame_iff t t']
  constructor
  ·rintro ⟨rfl, rfl⟩; rfl
  ·intro h; injection h with h1 h2; exact ⟨h1, h2⟩
 | .nm _ _, .ls _ _ => by simp [trSame]
 | .ls _ _, .nm _ _ => by simp [trSame]
def trN : TR → List UInt8
 | .nm s _ => s
 | .ls _ _ => []
def trB : TR → Bool
 | .nm _ b => b
 | .ls _ b => b
def trL : TR → Nat
 | .nm _ _ => 0
 | .ls _ _ => 1
theorem tr_any {w : World} {G : Nat → Prop} : ∀ {t : TR} {cs : List Value}, CellsAt w G (trC t) cs → ∃ a c, cs = [.string ⟨(trN t).toArray⟩, .slice a (trL t) c, .bool (trB t)]
 | .nm s b, cs, h => tr_cells_nm h
 | .ls t b, cs, h => by
  obtain ⟨v, rfl, hv⟩ := tr_ls_cells h; have hv : CellAt w G (.row 3 ([t].map trC)) v := hv; obtain ⟨a, c, rfl, -, -, -⟩ := rows_at hv; exact ⟨a, c, rfl⟩
theorem trSame_no {t u : TR} (h : trN t ≠ trN u ∨ trB t ≠ trB u ∨ trL t ≠ trL u) : trSame t u = false := by
 cases hq : trSame t u with
 | false => rfl
 | true =>
  have := (trSame_iff t u).1 hq; subst this
  rcases h with h | h | h <;> exact absurd rfl h
end Go.Proofs.YtnkpoddbbdmipaaGreatDoor
