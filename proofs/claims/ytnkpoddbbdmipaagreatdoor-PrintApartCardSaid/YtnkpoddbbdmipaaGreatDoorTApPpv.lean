/- . -/
import Derived.Test.YtnkpoddbbdmipaaGreatDoorTApPjn
import Derived.Test.YtnkpoddbbdmipaaGreatDoorTApQuo
import Derived.Test.YtnkpoddbbdmipaaGreatDoorTApPry
namespace Go.Proofs.YtnkpoddbbdmipaaGreatDoor
open Go Go.RowKit
open Go.Lib (hid)
set_option linter.unusedVariables false
set_option linter.unusedSimpArgs false
def Tab (w : World) : Prop := Lib.TabIs Tryz.prog w "internal/strconv.uint64pow10" .u64 Lib.pow10Tab
theorem Tab.still {w w' : World} (h : Tab w) (o : Only (fun _ => False) w w') : Tab w' := by
 unfold Tab Lib.TabIs World.var? at *
 cases hg : Tryz.prog.globalNamed "internal/strconv.uint64pow10" with
 | none => simp [hg] at h
 | some g =>
  simp only [hg, Option.bind_some] at h ⊢; have hlt : g < w.heap.size := by
   rcases Nat.lt_or_ge g w.heap.size with h' | h'
   ·exact h'
   ·simp [Array.getElem?_eq_none h'] at h
  rw [o.block g hlt (fun e => e)]; exact h
theorem decDigits_digS : ∀ (m u : Nat), u ≤ m → Lib.decDigits u = digS u
 | m, u, hm => by
  rw [Lib.decDigits, digS]
  by_cases h : u < 10
  ·rw [dif_pos h, dif_pos h]
  ·rw [dif_neg h, dif_neg h]
   cases m with
   | zero => omega
   | succ m => rw [decDigits_digS m (u / 10) (by omega)]
theorem itoa_numS (n : Int) : Lib.itoa n = numS n := by
 unfold Lib.itoa numS
 by_cases h : n < 0
 ·rw [if_pos h, decide_eq_true h, decDigits_digS _ _ (Nat.le_refl _)]; rfl
 ·rw [if_neg h, decide_eq_false h, decDigits_digS _ _ (Nat.le_refl _)]; have e : n.toNat = n.natAbs := by omega
  rw [e]; rfl
theorem only_growQ (w : World) (k : Nat) (os : Array Obj) : Only (fun _ => False) w (Go.Sort.grow (w.drewN k) os) := by
 refine ⟨rfl, rfl, rfl, by simp [Go.Sort.grow], fun j hj _ => ?_⟩
 show (w.heap ++ os)[j]? = w.heap[j]?
 rw [Array.getElem?_append_left hj]
theorem pint_any (n : Int) (h0 : -9223372036854775808 ≤ n) (h1 : n ≤ 9223372036854775807) (w : World) (ht : Tab w) : Calls Tryz.prog 54 #[.int .i64 n, .int .i64 10] w fun e w' => e = .returned (.string ⟨(numS n).toArray⟩) ∧ Only (fun _ => False) w w' :=
 (Tryz.strconv_FormatInt_10 n h0 h1 w ht).mono fun e w' h => by
  obtain ⟨h1, k, os, rfl⟩ := h; exact ⟨by rw [h1, itoa_numS], only_growQ w k os⟩
theorem pbool_any (b : Bool) (w : World) : Calls Tryz.prog 55 #[.bool b] w fun e w' => e = .returned (.string ⟨(if b then [116, 114, 117, 101] else [102, 97, 108, 115, 101] : List UInt8).toArray⟩) ∧ w' = w :=
 (Tryz.strconv_FormatBool b w).mono fun e w' h => ⟨by rw [h.1]; cases b <;> rfl, h.2⟩
theorem sep_join (g : List It) : ∀ l : List (List It), ren (sepI g l) = Lib.join (l.map ren) (ren g)
 | [] => rfl
 | [a] => by simp [sepI, Lib.join]
 | a :: b :: l => by
  have ih := sep_join g (b :: l); have e : Lib.join ((a :: b :: l).map ren) (ren g) = ren a ++ ren g ++ Lib.join ((b :: l).map ren) (ren g) := by simp [Lib.join, List.intercalate, List.intersperse]
  rw [e, ← ih]; simp [sepI, ren_app, List.flatMap_cons]
inductive WellQ : VT → Prop
 | mk (k : Nat) (n : Int) (s : List UInt8) (ks : List (List UInt8)) (vs : List VT) (h8 : k ≤ 8) (hn : -9223372036854775808 ≤ n ∧ n ≤ 9223372036854775807) (hk : vs = [] ∨ k = 5 ∨ k = 6 ∧ ks.length = vs.length) (hv : ∀ v ∈ vs, WellQ v) : WellQ (.mk k n s ks vs)
set_option maxRecDepth 100000 in
set_option maxHeartbeats 8000000 in
theorem ppT_any : ∀ (t : TR) (G : Nat → Prop) (w : World) (cs : List Value), CellsAt w G (trC t) cs → (ren (typI t)).length ≤ 1000000000000 →
  Calls Tryz.prog 21 #[.agg cs.toArray] w (fun e w' => e = .returned (.string ⟨(ren (typI t)).toArray⟩) ∧ Only (fun _ => False) w w')
 | .nm s b, G, w, cs, h, hl => by
  obtain ⟨a, c, rfl⟩ : ∃ a c, cs = [.string ⟨s.toArray⟩, .slice a 0 c, .bool b] := by
   rcases tr_cells h with rfl | ⟨a, c, rfl⟩
   ·exact ⟨_, _, rfl⟩
   ·exact ⟨_, _, rfl⟩
  have e1 : ren (typI (.nm s b)) = s ++ (if b then [33] else []) := by
   rw [typI, ren_cons]; cases b <;> rfl
  rw [e1] at hl ⊢; have hls : s.length ≤ 1000000000000 := by rw [List.length_append] at hl; omega
  obtain ⟨wb, hwb⟩ := eX (w.alloc (.cells #[.string ⟨s.toArray⟩, .slice a 0 c, .bool b] 41)); obtain ⟨bA, hbA⟩ := eX (w.heap.size); have ob : Only (fun _ => False) w wb := by rw [← hwb]; exact (Only.refl _ w).alloc _
  have hx1 : wb.heap[bA]? = some (.cells #[.string ⟨s.toArray⟩, .slice a 0 c, .bool b] 41 (0, 0)) := by rw [← hwb, ← hbA]; exact heap_new w _
  obtain ⟨c0, c1, c2, -⟩ := boxN3 hx1; have HOB := hid ob; have HWB := hid hwb; have HBA := hid hbA; clear hx1 ob hwb hbA h e1 hl
  cases b with
  | false =>
   rw [if_neg (by decide), List.append_nil]
   go_enter Tryz.func21, Tryz.ntmps21
   go_upto_region 1 with (fail)
   rw [HWB.out, HBA.out]
   go_wp2_with fail
   clear c0 c1 c2
   go_ret
   exact ⟨rfl, HOB.out⟩
  | true =>
   rw [if_pos rfl]
   go_enter Tryz.func21, Tryz.ntmps21
   go_upto_region 1 with (fail)
   rw [HWB.out, HBA.out]
   go_wp2_with fail
   clear c0 c1 c2
   go_ret
   rw [← cat_list]; exact ⟨rfl, HOB.out⟩
 | .ls t b, G, w, cs, h, hl => by
  obtain ⟨v, rfl, hv⟩ := tr_ls_cells h; have hv : CellAt w G (.row 3 ([t].map trC)) v := hv; obtain ⟨a, c, rfl, k1, k2, k3⟩ := rows_at hv; obtain ⟨g, o, xs, rfl, -, q1, q2⟩ := k3 0 (by simp); have q2 : CellsAt w G (trC t) xs := q2; have e1 : ren (typI (.ls t b)) = [91] ++ ren (typI t) ++ [93] ++ (if b then [33] else []) := by
   rw [typI, ren_cons, ren_app, ren_cons]; cases b <;> simp [bangI, ren, It.src, sgI]
  rw [e1] at hl; obtain ⟨R, hR⟩ := eX (ren (typI (.ls t b))); rw [hR] at e1 ⊢; have HR := hid e1; clear hR; have hlt : (ren (typI t)).length ≤ 1000000000000 := by simp only [List.length_append] at hl; omega
  have hrec := fun (wx : World) (ox : Only (fun _ => False) w wx) => ppT_any t G wx xs (CellsAt.only ox (fun _ _ h => h) _ _ q2) hlt
  obtain ⟨s1, a1, l1, c1', b1, rfl⟩ := trC_form2 q2; rw [Nat.zero_mul, Nat.add_zero] at q1; obtain ⟨e0, e1', e2⟩ := cells3_pw q1; simp only [List.length_cons, List.length_nil, Nat.zero_add] at k1 ⊢; obtain ⟨wb, hwb⟩ := eX (w.alloc (.cells #[.string ⟨#[]⟩, .slice (some ⟨g, o, none⟩) 1 c, .bool b] 41)); obtain ⟨bA, hbA⟩ := eX (w.heap.size); have ob : Only (fun _ => False) w wb := by rw [← hwb]; exact (Only.refl _ w).alloc _
  have hx1 : wb.heap[bA]? = some (.cells #[.string ⟨#[]⟩, .slice (some ⟨g, o, none⟩) 1 c, .bool b] 41 (0, 0)) := by rw [← hwb, ← hbA]; exact heap_new w _
  obtain ⟨c0, c1, c2, -⟩ := boxN3 hx1; have e0 := keepc ob e0; have e1' := keepc ob e1'; have e2 := keepc ob e2; have HREC := hid (hrec wb ob); have HC2 := hid c2; have HOB := hid ob; have HWB := hid hwb; have HBA := hid hbA
  generalize ren (typI t) = rt at *
  clear hx1 ob hwb hbA h e1 hl hrec q1 q2 k3 hv
  go_enter Tryz.func21, Tryz.ntmps21
  go_upto_region 1 with (fail)
  rw [HWB.out, HBA.out]
  go_wp2_with fail
  refine HREC.out.mono ?_
  rintro e w6 ⟨rfl, o6⟩; clear c0 c1 c2 e0 e1' e2; have c2 := keepc o6 HC2.out; have HO6 := hid (HOB.out.trans o6); clear o6
  cases b with
  | false =>
   go_wp2_with fail
   clear c2
   go_ret
   rw [HR.out, if_neg (by decide), List.append_nil, ← cat_list, ← cat_list]; exact ⟨rfl, HO6.out⟩
  | true =>
   go_wp2_with fail
   clear c2
   go_ret
   rw [HR.out, if_pos trivial, ← cat_list, ← cat_list, ← cat_list]; exact ⟨rfl, HO6.out⟩
end Go.Proofs.YtnkpoddbbdmipaaGreatDoor
