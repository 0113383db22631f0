/- The document's printer: types as they are named, values. -/
import Derived.Test.YtgephneppgcnlaaDoorPrw
namespace Go.Proofs.YtgephneppgcnlaaDoor
open Go Go.RowKit
set_option linter.unusedVariables false
set_option linter.unusedSimpArgs false

theorem sep_app (g : List It) {a : List (List It)} (b : List (List It)) (h : a ≠ []) : sepI g (a ++ b) = sepI g a ++ b.flatMap (fun x => g ++ x) := by
  cases a with
  | nil => exact absurd rfl h
  | cons x a => show x ++ (a ++ b).flatMap _ = x ++ a.flatMap _ ++ _; rw [List.flatMap_append, List.append_assoc]
theorem sep_le (g : List It) (l : List (List It)) (i : Nat) : (ren (sepI g (l.take i))).length ≤ (ren (sepI g l)).length := by
  by_cases h : l.take i = []
  · rw [h]; simp [sepI, ren]
  · conv => rhs; rw [← List.take_append_drop i l]
    rw [sep_app g _ h, ren_app, List.length_append]; omega
theorem sep_succ (g : List It) (l : List (List It)) (i : Nat) (h : i < l.length) : ren (sepI g (l.take (i + 1))) = (if 0 < i then ren (sepI g (l.take i)) ++ ren g else []) ++ ren l[i] := by
  rw [List.take_succ_eq_append_getElem h, sepI_snoc]
  by_cases h0 : 0 < i
  · have hne : l.take i ≠ [] := fun e => by
      have h2 : (l.take i).length = 0 := congrArg List.length e
      rw [List.length_take] at h2; omega
    rw [if_neg hne, if_pos h0, ren_app, ren_app]
  · have : i = 0 := by omega
    subst this
    simp
theorem gap_ren : ren gapI = [44, 32] := rfl
theorem sep_zero (g : List It) (l : List (List It)) : ren (sepI g (l.take 0)) = [] := by rw [List.take_zero]; rfl
theorem cells3_pw {w : World} {g p : Nat} {x y z : Value} (h : ∀ j q, ([x, y, z] : List Value)[j]? = some q → w.cell? ⟨g, p + j, none⟩ = some q) : w.cell? ⟨g, p, none⟩ = some x ∧ w.cell? ⟨g, p + 1, none⟩ = some y ∧ w.cell? ⟨g, p + 2, none⟩ = some z := ⟨h 0 x rfl, h 1 y rfl, h 2 z rfl⟩
set_option maxRecDepth 100000 in
set_option maxHeartbeats 8000000 in
theorem prT_any : ∀ (t : TR) (G : Nat → Prop) (w : World) (cs : List Value), CellsAt w G (trC t) cs → (ren (typI t)).length ≤ 1000000000000 →
    Calls Tryd.prog 56 #[.agg cs.toArray] w (fun e w' => e = .returned (.string ⟨(ren (typI t)).toArray⟩) ∧ Only (fun _ => False) w w')
  | .nm s b, G, w, cs, h, hl => by
    obtain ⟨a, c, rfl⟩ : ∃ a c, cs = [.string ⟨s.toArray⟩, .slice a 0 c, .bool b] := by
      rcases tr_cells h with rfl | ⟨a, c, rfl⟩
      · exact ⟨_, _, rfl⟩
      · exact ⟨_, _, rfl⟩
    have e1 : ren (typI (.nm s b)) = s ++ (if b then [33] else []) := by
      rw [typI, ren_cons]; cases b <;> rfl
    rw [e1] at hl ⊢
    have hls : s.length ≤ 1000000000000 := by rw [List.length_append] at hl; omega
    obtain ⟨wb, hwb⟩ : ∃ wb, w.alloc (.cells #[.string ⟨s.toArray⟩, .slice a 0 c, .bool b] 42) = wb := ⟨_, rfl⟩
    obtain ⟨bA, hbA⟩ : ∃ b, w.heap.size = b := ⟨_, rfl⟩
    have ob : Only (fun _ => False) w wb := by rw [← hwb]; exact (Only.refl _ w).alloc _
    have hx1 : wb.heap[bA]? = some (.cells #[.string ⟨s.toArray⟩, .slice a 0 c, .bool b] 42 (0, 0)) := by rw [← hwb, ← hbA]; exact heap_new w _
    obtain ⟨c0, c1, c2, -⟩ := boxN3 hx1
    have HOB := Lib.hid ob; have HWB := Lib.hid hwb; have HBA := Lib.hid hbA
    clear hx1 ob hwb hbA h e1 hl
    cases b with
    | false =>
      rw [if_neg (by decide), List.append_nil]
      go_enter Tryd.func56, Tryd.ntmps56
      go_upto_region 1 with (fail)
      rw [HWB.out, HBA.out]
      go_wp2_with fail
      clear c0 c1 c2
      go_ret
      exact ⟨rfl, HOB.out⟩
    | true =>
      rw [if_pos rfl]
      go_enter Tryd.func56, Tryd.ntmps56
      go_upto_region 1 with (fail)
      rw [HWB.out, HBA.out]
      go_wp2_with fail
      clear c0 c1 c2
      go_ret
      rw [← cat_list]
      exact ⟨rfl, HOB.out⟩
  | .ls t b, G, w, cs, h, hl => by
    obtain ⟨v, rfl, hv⟩ := tr_ls_cells h
    have hv : CellAt w G (.row 3 ([t].map trC)) v := hv
    obtain ⟨a, c, rfl, k1, k2, k3⟩ := rows_at hv
    obtain ⟨g, o, xs, rfl, -, q1, q2⟩ := k3 0 (by simp)
    have q2 : CellsAt w G (trC t) xs := q2
    have e1 : ren (typI (.ls t b)) = [91] ++ ren (typI t) ++ [93] ++ (if b then [33] else []) := by
      rw [typI, ren_cons, ren_app, ren_cons]; cases b <;> simp [bangI, ren, It.src, sgI]
    rw [e1] at hl
    obtain ⟨R, hR⟩ : ∃ R, ren (typI (.ls t b)) = R := ⟨_, rfl⟩
    rw [hR] at e1 ⊢
    have HR := Lib.hid e1
    clear hR
    have hlt : (ren (typI t)).length ≤ 1000000000000 := by simp only [List.length_append] at hl; omega
    have hrec := fun (wx : World) (ox : Only (fun _ => False) w wx) => prT_any t G wx xs (CellsAt.only ox (fun _ _ h => h) _ _ q2) hlt
    obtain ⟨s1, a1, l1, c1', b1, rfl⟩ := trC_form2 q2
    rw [Nat.zero_mul, Nat.add_zero] at q1
    obtain ⟨e0, e1', e2⟩ := cells3_pw q1
    simp only [List.length_cons, List.length_nil, Nat.zero_add] at k1 ⊢
    obtain ⟨wb, hwb⟩ : ∃ wb, w.alloc (.cells #[.string ⟨#[]⟩, .slice (some ⟨g, o, none⟩) 1 c, .bool b] 42) = wb := ⟨_, rfl⟩
    obtain ⟨bA, hbA⟩ : ∃ b, w.heap.size = b := ⟨_, rfl⟩
    have ob : Only (fun _ => False) w wb := by rw [← hwb]; exact (Only.refl _ w).alloc _
    have hx1 : wb.heap[bA]? = some (.cells #[.string ⟨#[]⟩, .slice (some ⟨g, o, none⟩) 1 c, .bool b] 42 (0, 0)) := by rw [← hwb, ← hbA]; exact heap_new w _
    obtain ⟨c0, c1, c2, -⟩ := boxN3 hx1
    have e0 := keepc ob e0; have e1' := keepc ob e1'; have e2 := keepc ob e2
    have HREC := Lib.hid (hrec wb ob)
    have HC2 := Lib.hid c2
    have HOB := Lib.hid ob; have HWB := Lib.hid hwb; have HBA := Lib.hid hbA
    generalize ren (typI t) = rt at *
    clear hx1 ob hwb hbA h e1 hl hrec q1 q2 k3 hv
    go_enter Tryd.func56, Tryd.ntmps56
    go_upto_region 1 with (fail)
    rw [HWB.out, HBA.out]
    go_wp2_with fail
    refine HREC.out.mono ?_
    rintro e w6 ⟨rfl, o6⟩
    clear c0 c1 c2 e0 e1' e2
    have c2 := keepc o6 HC2.out
    have HO6 := Lib.hid (HOB.out.trans o6); clear o6
    cases b with
    | false =>
      go_wp2_with fail
      clear c2
      go_ret
      rw [HR.out, if_neg (by decide), List.append_nil, ← cat_list, ← cat_list]
      exact ⟨rfl, HO6.out⟩
    | true =>
      go_wp2_with fail
      clear c2
      go_ret
      rw [HR.out, if_pos trivial, ← cat_list, ← cat_list, ← cat_list]
      exact ⟨rfl, HO6.out⟩
end Go.Proofs.YtgephneppgcnlaaDoor
