/- . -/
import Derived.Below
import Derived.Test.YtnkpoddbbdmipaaGreatDoorTApPjn
import Derived.Test.YtnkpoddbbdmipaaGreatDoorTApOwD
namespace Go.Proofs.YtnkpoddbbdmipaaGreatDoor
open Go Go.RowKit
open Go.Lib (hid)
set_option linter.unusedVariables false
set_option linter.unusedSimpArgs false
theorem cq6_of {w : World} {g p : Nat} {x0 x1 x2 x3 x4 x5 : Value} (h : ∀ j q, ([x0, x1, x2, x3, x4, x5] : List Value)[j]? = some q → w.cell? ⟨g, p + j, none⟩ = some q) : w.cell? ⟨g, p, none⟩ = some x0 ∧ w.cell? ⟨g, p + 1, none⟩ = some x1 ∧ w.cell? ⟨g, p + 2, none⟩ = some x2 ∧ w.cell? ⟨g, p + 3, none⟩ = some x3 ∧ w.cell? ⟨g, p + 4, none⟩ = some x4 ∧ w.cell? ⟨g, p + 5, none⟩ = some x5 := ⟨h 0 _ rfl, h 1 _ rfl, h 2 _ rfl, h 3 _ rfl, h 4 _ rfl, h 5 _ rfl⟩
set_option maxRecDepth 100000 in
set_option maxHeartbeats 8000000 in
theorem pjoinA_any (xs : List AR) (txt : AR → List UInt8) (G : Nat → Prop) (w : World) (v : Value) (gap : List UInt8) (hg : 1 ≤ gap.length) (h : CellAt w G (.row 6 (xs.map argC)) v)
  (hf : ∀ (i : Nat) (hi : i < xs.length) (wx : World) (cs : List Value), Only (fun _ => False) w wx → CellsAt wx G (argC xs[i]) cs → Calls Tryz.prog 85 #[.agg cs.toArray] wx (fun e w' => e = .returned (.string ⟨(txt xs[i]).toArray⟩) ∧ Only (fun _ => False) wx w'))
  (hl : (Lib.join (xs.map txt) gap).length ≤ 1000000000000) :
  Calls Tryz.prog 84 #[v, .string ⟨gap.toArray⟩, .func (.func 85) #[] #[]] w (fun e w' => e = .returned (.string ⟨(Lib.join (xs.map txt) gap).toArray⟩) ∧ Only (fun _ => False) w w') := by
 have hn := join_few hg _ hl; rw [List.length_map] at hn; obtain ⟨av, cv, rfl, hcv, hcv', hV⟩ := rows_at h; obtain ⟨L, hL⟩ := eX (xs.length); obtain ⟨R, hR⟩ := eX (Lib.join (xs.map txt) gap); have HVV := hid hV; have HF := hid hf; have HL := hid hL; have HR := hid hR; have HLEN := hid hl; rw [hL] at hcv hn ⊢; rw [hR]; clear h hV hf hL hR hl
 go_enter Tryz.func84, Tryz.ntmps84
 go_wp2_with fail
 go_loopw [7, 12] (fun x y wr => ∃ i : Nat, y = .int .i64 (i : Int) ∧ Hid (i ≤ L ∧ Only (fun _ => False) w wr ∧ wr.ownsRow w.heap.size 9 1 x i ((xs.take i).map fun z => .string ⟨(txt z).toArray⟩))) (fun _ y _ => L - (intOf y).toNat)
 case atStart => exact ⟨0, rfl, hid ⟨by omega, oR, by rw [List.take_zero]; exact own_nil _ _ _ _⟩⟩
 case round =>
  obtain ⟨i, rfl, hrel⟩ := hrel; obtain ⟨hi, ho, hown⟩ := hrel.out; obtain ⟨ax, cx, ex, k1, k2, k3⟩ := own_form hown; subst ex; have k2' : cx ≤ 9223372036854775807 := by unfold maxLen at k2; omega
  have HO := hid ho; have HOWN := hid hown; have HK3 := hid k3; clear hrel ho hown k2 k3
  by_cases hlt : i < L
  ·have t1 : decide ((i : Int) < (L : Int)) = true := decide_eq_true (by omega); have hi0 : (0 : Int) ≤ (i : Int) := by omega
   have hi1 : (i : Int) < (L : Int) := by omega
   have hvi : i < xs.length := by rw [HL.out]; exact hlt
   obtain ⟨gv, ov, cs, rfl, hgv, hr, hc⟩ := HVV.out i hvi; obtain ⟨X, hX⟩ := eX (wr.heap.size); have hfi := fun (wx : World) (ox : Only (fun _ => False) w wx) => HF.out i hvi wx cs ox (CellsAt.only ox (fun _ _ h => h) _ _ hc)
   obtain ⟨s0, k, n, s, a1, l1, e1, a2, l2, e2, rfl⟩ := argC_form2 hc; obtain ⟨w4, hw4⟩ := eX (wr.alloc (.cells #[.string ⟨s0.toArray⟩, .int .u8 (k : Int), .int .i64 n, .string ⟨s.toArray⟩, .slice a1 l1 e1, .slice a2 l2 e2] 48)); have o4 : Only (fun _ => False) wr w4 := by rw [← hw4]; exact (Only.refl _ _).alloc _
   have hx4 : w4.heap[X]? = some (.cells #[.string ⟨s0.toArray⟩, .int .u8 (k : Int), .int .i64 n, .string ⟨s.toArray⟩, .slice a1 l1 e1, .slice a2 l2 e2] 48 (0, 0)) := by rw [← hw4, ← hX]; exact heap_new _ _
   have J := hid (hfi w4 (HO.out.trans o4)); obtain ⟨e0_, e1_, e2_, e3_, e4_, e5_⟩ := cq6_of hr; have e0_ := keepc HO.out e0_; have e1_ := keepc HO.out e1_; have e2_ := keepc HO.out e2_; have e3_ := keepc HO.out e3_; have e4_ := keepc HO.out e4_; have e5_ := keepc HO.out e5_; obtain ⟨tx, htx⟩ := eX (txt xs[i]); rw [htx] at J; have HTX := hid htx; have HX := hid hX; have HW4 := hid hw4; have HO4 := hid (HO.out.trans o4); have HX4 := hid hx4; have O4 := hid o4; clear hfi hc hr hX hw4 o4 hx4 htx
   go_upto_region 5 with (fail)
   rw [HX.out, HW4.out]; clear e0_ e1_ e2_ e3_ e4_ e5_ HX HW4; obtain ⟨x0, x1, x2, x3, x4, x5, -⟩ := boxN6 HX4.out
   go_wp2_with fail
   refine J.out.mono ?_
   rintro e w5 ⟨rfl, o5⟩; obtain ⟨G5, hG5⟩ := eX (w5.heap.size); obtain ⟨w6, hw6⟩ := eX (w5.alloc (.cells #[.string ⟨tx.toArray⟩] 9)); have o6 : Only (fun _ => False) w5 w6 := by rw [← hw6]; exact (Only.refl _ _).alloc _
   have hx6 : w6.heap[G5]? = some (.cells #[.string ⟨tx.toArray⟩] 9 (0, 0)) := by rw [← hw6, ← hG5]; exact heap_new _ _
   have o46 : Only (fun _ => False) wr w6 := (O4.out.trans o5).trans o6; have hown6 := own_only' HOWN.out o46 (fun _ _ h => h); have hys : ∀ j u, ([.string ⟨tx.toArray⟩] : List Value)[j]? = some u → w6.cell? ((⟨G5, 0, none⟩ : Addr).add j) = some u := fun j u hu => by
    match j, hu with
    | 0, hu => rw [addr_add]; simp [World.cell?, hx6]; simpa using hu
   have hB6 : w.heap.size ≤ w6.heap.size := Nat.le_trans HO.out.size o46.size; have HO6 := hid (HO.out.trans o46); have HOWN6 := hid hown6; have HYS := hid hys; have HB6 := hid hB6; have HG5 := hid hG5; have HW6 := hid hw6; clear o5 o6 hx6 o46 hown6 hys hB6 hG5 hw6 x0 x1 x2 x3 x4 x5
   go_wp2_with ((rw [HG5.out, HW6.out]; refine wpList_append_own2 (o := ⟨some 21, _, _, _, _, _⟩) rfl (.tmp 16) (.tmp 20) 32 9 (by rfl) Tryz.underlying32 infoStrQ rfl (by decide) w.heap.size (.slice ax i cx) i 1 1 ((xs.take i).map fun z => .string ⟨(txt z).toArray⟩) [.string ⟨tx.toArray⟩] ⟨G5, 0, none⟩ (by rfl) (by rfl) HOWN6.out (by rfl) HYS.out (by intro u hu; simp at hu; subst hu; rfl) (by unfold maxLen; omega) (by omega) HB6.out ?_; intro v' w9 q1 q2 q3))
   have hoo : Only (fun _ => False) w w9 := HO6.out.trans' q2 (fun q hq h => by have := (HK3.out q h).1; omega); have hrow : w9.ownsRow w.heap.size 9 1 v' (i + 1) ((xs.take (i + 1)).map fun z => .string ⟨(txt z).toArray⟩) := by
    rw [List.take_succ_eq_append_getElem hvi, List.map_append, List.map_singleton, HTX.out]; exact q1
   have HNEW := hid (And.intro (show i + 1 ≤ L by omega) (And.intro hoo hrow)); clear q1 q2 q3 hoo hrow
   go_wp2_with fail
   go_roundw
   case rel => exact ⟨i + 1, by simp, HNEW⟩
   case measure => simp [intOf]; omega
  ·have t1 : decide ((i : Int) < (L : Int)) = false := decide_eq_false (by omega); have hiL : i = L := by omega
   subst hiL
   by_cases h0 : i = 0
   ·subst h0; have J := hid (Tryz.strings_Join_none ax cx ⟨gap.toArray⟩ wr); have hre : R = [] := by
     rw [← HR.out, List.eq_nil_of_length_eq_zero HL.out]; rfl
    have HRE := hid hre; clear hre
    go_wp2_with fail
    refine J.out.mono ?_
    rintro e w9 ⟨rfl, rfl⟩
    go_wp2_with fail
    go_ret
    exact ⟨by rw [HRE.out]; rfl, HO.out⟩
   ·obtain ⟨g2, c2, e2, hBg, hgw, hrg⟩ := own_range HOWN.out (by omega)
    injection e2 with e2 e2' e2''
    subst e2; have hlen2 : ((xs.map fun z => (⟨(txt z).toArray⟩ : ByteArray)).length) = i := by rw [List.length_map, HL.out]
    have hdat : (xs.map fun z => (⟨(txt z).toArray⟩ : ByteArray)).map (·.data.toList) = xs.map txt := by rw [List.map_map]; exact List.map_congr_left (fun z _ => rfl)
    have htk : xs.take i = xs := by rw [← HL.out]; exact List.take_length
    have J := Tryz.strings_Join g2 0 cx (xs.map fun z => (⟨(txt z).toArray⟩ : ByteArray)) ⟨gap.toArray⟩ wr (fun j x hj => by
     rw [List.getElem?_map] at hj; obtain ⟨z, hz, rfl⟩ : ∃ z, xs[j]? = some z ∧ (⟨(txt z).toArray⟩ : ByteArray) = x := by
      cases hq : xs[j]? with
      | none => rw [hq] at hj; cases hj
      | some z => rw [hq] at hj; injection hj with hj; exact ⟨z, rfl, hj⟩
     exact hrg j _ (by rw [htk, List.getElem?_map, hz]; rfl)) hgw (by rw [hlen2]; omega) (by rw [hlen2]; omega) (by rw [hdat]; show (Lib.join _ gap).length ≤ _; have := HLEN.out; omega)
    rw [hlen2, hdat] at J; have J : Calls Tryz.prog 48 #[.slice (some ⟨g2, 0, none⟩) i cx, .string ⟨gap.toArray⟩] wr fun e w' => e = .returned (.string ⟨(Lib.join (xs.map txt) gap).toArray⟩) ∧ Below wr.heap.size wr w' := J
    rw [HR.out] at J; have J := hid J; clear hlen2 hdat htk hrg e2' e2''
    go_wp2_with fail
    refine J.out.mono ?_
    rintro e w9 ⟨rfl, ob⟩; have HO9 := hid (HO.out.trans (Only.ofBelow ob _)); clear ob
    go_wp2_with fail
    go_ret
    exact ⟨rfl, HO9.out⟩
theorem cq7_of {w : World} {g p : Nat} {x0 x1 x2 x3 x4 x5 x6 : Value} (h : ∀ j q, ([x0, x1, x2, x3, x4, x5, x6] : List Value)[j]? = some q → w.cell? ⟨g, p + j, none⟩ = some q) : w.cell? ⟨g, p, none⟩ = some x0 ∧ w.cell? ⟨g, p + 1, none⟩ = some x1 ∧ w.cell? ⟨g, p + 2, none⟩ = some x2 ∧ w.cell? ⟨g, p + 3, none⟩ = some x3 ∧ w.cell? ⟨g, p + 4, none⟩ = some x4 ∧ w.cell? ⟨g, p + 5, none⟩ = some x5 ∧ w.cell? ⟨g, p + 6, none⟩ = some x6 := ⟨h 0 _ rfl, h 1 _ rfl, h 2 _ rfl, h 3 _ rfl, h 4 _ rfl, h 5 _ rfl, h 6 _ rfl⟩
set_option maxRecDepth 100000 in
set_option maxHeartbeats 8000000 in
theorem pjoinS_any (xs : List SL) (txt : SL → List UInt8) (G : Nat → Prop) (w : World) (v : Value) (gap : List UInt8) (hg : 1 ≤ gap.length) (h : CellAt w G (.row 7 (xs.map selC)) v)
  (hf : ∀ (i : Nat) (hi : i < xs.length) (wx : World) (cs : List Value), Only (fun _ => False) w wx → CellsAt wx G (selC xs[i]) cs → Calls Tryz.prog 27 #[.agg cs.toArray] wx (fun e w' => e = .returned (.string ⟨(txt xs[i]).toArray⟩) ∧ Only (fun _ => False) wx w'))
  (hl : (Lib.join (xs.map txt) gap).length ≤ 1000000000000) :
  Calls Tryz.prog 74 #[v, .string ⟨gap.toArray⟩, .func (.func 27) #[] #[]] w (fun e w' => e = .returned (.string ⟨(Lib.join (xs.map txt) gap).toArray⟩) ∧ Only (fun _ => False) w w') := by
 have hn := join_few hg _ hl; rw [List.length_map] at hn; obtain ⟨av, cv, rfl, hcv, hcv', hV⟩ := rows_at h; obtain ⟨L, hL⟩ := eX (xs.length); obtain ⟨R, hR⟩ := eX (Lib.join (xs.map txt) gap); have HVV := hid hV; have HF := hid hf; have HL := hid hL; have HR := hid hR; have HLEN := hid hl; rw [hL] at hcv hn ⊢; rw [hR]; clear h hV hf hL hR hl
 go_enter Tryz.func74, Tryz.ntmps74
 go_wp2_with fail
 go_loopw [7, 12] (fun x y wr => ∃ i : Nat, y = .int .i64 (i : Int) ∧ Hid (i ≤ L ∧ Only (fun _ => False) w wr ∧ wr.ownsRow w.heap.size 9 1 x i ((xs.take i).map fun z => .string ⟨(txt z).toArray⟩))) (fun _ y _ => L - (intOf y).toNat)
 case atStart => exact ⟨0, rfl, hid ⟨by omega, oR, by rw [List.take_zero]; exact own_nil _ _ _ _⟩⟩
 case round =>
  obtain ⟨i, rfl, hrel⟩ := hrel; obtain ⟨hi, ho, hown⟩ := hrel.out; obtain ⟨ax, cx, ex, k1, k2, k3⟩ := own_form hown; subst ex; have k2' : cx ≤ 9223372036854775807 := by unfold maxLen at k2; omega
  have HO := hid ho; have HOWN := hid hown; have HK3 := hid k3; clear hrel ho hown k2 k3
  by_cases hlt : i < L
  ·have t1 : decide ((i : Int) < (L : Int)) = true := decide_eq_true (by omega); have hi0 : (0 : Int) ≤ (i : Int) := by omega
   have hi1 : (i : Int) < (L : Int) := by omega
   have hvi : i < xs.length := by rw [HL.out]; exact hlt
   obtain ⟨gv, ov, cs, rfl, hgv, hr, hc⟩ := HVV.out i hvi; obtain ⟨X, hX⟩ := eX (wr.heap.size); have hfi := fun (wx : World) (ox : Only (fun _ => False) w wx) => HF.out i hvi wx cs ox (CellsAt.only ox (fun _ _ h => h) _ _ hc)
   obtain ⟨k, s1, s2, s3, a1, l1, e1, a2, l2, e2, a3, l3, e3, rfl⟩ := selC_form2 hc; obtain ⟨w4, hw4⟩ := eX (wr.alloc (.cells #[.int .u8 (k : Int), .string ⟨s1.toArray⟩, .string ⟨s2.toArray⟩, .string ⟨s3.toArray⟩, .slice a1 l1 e1, .slice a2 l2 e2, .slice a3 l3 e3] 53)); have o4 : Only (fun _ => False) wr w4 := by rw [← hw4]; exact (Only.refl _ _).alloc _
   have hx4 : w4.heap[X]? = some (.cells #[.int .u8 (k : Int), .string ⟨s1.toArray⟩, .string ⟨s2.toArray⟩, .string ⟨s3.toArray⟩, .slice a1 l1 e1, .slice a2 l2 e2, .slice a3 l3 e3] 53 (0, 0)) := by rw [← hw4, ← hX]; exact heap_new _ _
   have J := hid (hfi w4 (HO.out.trans o4)); obtain ⟨e0_, e1_, e2_, e3_, e4_, e5_, e6_⟩ := cq7_of hr; have e0_ := keepc HO.out e0_; have e1_ := keepc HO.out e1_; have e2_ := keepc HO.out e2_; have e3_ := keepc HO.out e3_; have e4_ := keepc HO.out e4_; have e5_ := keepc HO.out e5_; have e6_ := keepc HO.out e6_; obtain ⟨tx, htx⟩ := eX (txt xs[i]); rw [htx] at J; have HTX := hid htx; have HX := hid hX; have HW4 := hid hw4; have HO4 := hid (HO.out.trans o4); have HX4 := hid hx4; have O4 := hid o4; clear hfi hc hr hX hw4 o4 hx4 htx
   go_upto_region 5 with (fail)
   rw [HX.out, HW4.out]; clear e0_ e1_ e2_ e3_ e4_ e5_ e6_ HX HW4; obtain ⟨x0, x1, x2, x3, x4, x5, x6, -⟩ := boxN7 HX4.out
   go_wp2_with fail
   refine J.out.mono ?_
   rintro e w5 ⟨rfl, o5⟩; obtain ⟨G5, hG5⟩ := eX (w5.heap.size); obtain ⟨w6, hw6⟩ := eX (w5.alloc (.cells #[.string ⟨tx.toArray⟩] 9)); have o6 : Only (fun _ => False) w5 w6 := by rw [← hw6]; exact (Only.refl _ _).alloc _
   have hx6 : w6.heap[G5]? = some (.cells #[.string ⟨tx.toArray⟩] 9 (0, 0)) := by rw [← hw6, ← hG5]; exact heap_new _ _
   have o46 : Only (fun _ => False) wr w6 := (O4.out.trans o5).trans o6; have hown6 := own_only' HOWN.out o46 (fun _ _ h => h); have hys : ∀ j u, ([.string ⟨tx.toArray⟩] : List Value)[j]? = some u → w6.cell? ((⟨G5, 0, none⟩ : Addr).add j) = some u := fun j u hu => by
    match j, hu with
    | 0, hu => rw [addr_add]; simp [World.cell?, hx6]; simpa using hu
   have hB6 : w.heap.size ≤ w6.heap.size := Nat.le_trans HO.out.size o46.size; have HO6 := hid (HO.out.trans o46); have HOWN6 := hid hown6; have HYS := hid hys; have HB6 := hid hB6; have HG5 := hid hG5; have HW6 := hid hw6; clear o5 o6 hx6 o46 hown6 hys hB6 hG5 hw6 x0 x1 x2 x3 x4 x5 x6
   go_wp2_with ((rw [HG5.out, HW6.out]; refine wpList_append_own2 (o := ⟨some 21, _, _, _, _, _⟩) rfl (.tmp 16) (.tmp 20) 32 9 (by rfl) Tryz.underlying32 infoStrQ rfl (by decide) w.heap.size (.slice ax i cx) i 1 1 ((xs.take i).map fun z => .string ⟨(txt z).toArray⟩) [.string ⟨tx.toArray⟩] ⟨G5, 0, none⟩ (by rfl) (by rfl) HOWN6.out (by rfl) HYS.out (by intro u hu; simp at hu; subst hu; rfl) (by unfold maxLen; omega) (by omega) HB6.out ?_; intro v' w9 q1 q2 q3))
   have hoo : Only (fun _ => False) w w9 := HO6.out.trans' q2 (fun q hq h => by have := (HK3.out q h).1; omega); have hrow : w9.ownsRow w.heap.size 9 1 v' (i + 1) ((xs.take (i + 1)).map fun z => .string ⟨(txt z).toArray⟩) := by
    rw [List.take_succ_eq_append_getElem hvi, List.map_append, List.map_singleton, HTX.out]; exact q1
   have HNEW := hid (And.intro (show i + 1 ≤ L by omega) (And.intro hoo hrow)); clear q1 q2 q3 hoo hrow
   go_wp2_with fail
   go_roundw
   case rel => exact ⟨i + 1, by simp, HNEW⟩
   case measure => simp [intOf]; omega
  ·have t1 : decide ((i : Int) < (L : Int)) = false := decide_eq_false (by omega); have hiL : i = L := by omega
   subst hiL
   by_cases h0 : i = 0
   ·subst h0; have J := hid (Tryz.strings_Join_none ax cx ⟨gap.toArray⟩ wr); have hre : R = [] := by
     rw [← HR.out, List.eq_nil_of_length_eq_zero HL.out]; rfl
    have HRE := hid hre; clear hre
    go_wp2_with fail
    refine J.out.mono ?_
    rintro e w9 ⟨rfl, rfl⟩
    go_wp2_with fail
    go_ret
    exact ⟨by rw [HRE.out]; rfl, HO.out⟩
   ·obtain ⟨g2, c2, e2, hBg, hgw, hrg⟩ := own_range HOWN.out (by omega)
    injection e2 with e2 e2' e2''
    subst e2; have hlen2 : ((xs.map fun z => (⟨(txt z).toArray⟩ : ByteArray)).length) = i := by rw [List.length_map, HL.out]
    have hdat : (xs.map fun z => (⟨(txt z).toArray⟩ : ByteArray)).map (·.data.toList) = xs.map txt := by rw [List.map_map]; exact List.map_congr_left (fun z _ => rfl)
    have htk : xs.take i = xs := by rw [← HL.out]; exact List.take_length
    have J := Tryz.strings_Join g2 0 cx (xs.map fun z => (⟨(txt z).toArray⟩ : ByteArray)) ⟨gap.toArray⟩ wr (fun j x hj => by
     rw [List.getElem?_map] at hj; obtain ⟨z, hz, rfl⟩ : ∃ z, xs[j]? = some z ∧ (⟨(txt z).toArray⟩ : ByteArray) = x := by
      cases hq : xs[j]? with
      | none => rw [hq] at hj; cases hj
      | some z => rw [hq] at hj; injection hj with hj; exact ⟨z, rfl, hj⟩
     exact hrg j _ (by rw [htk, List.getElem?_map, hz]; rfl)) hgw (by rw [hlen2]; omega) (by rw [hlen2]; omega) (by rw [hdat]; show (Lib.join _ gap).length ≤ _; have := HLEN.out; omega)
    rw [hlen2, hdat] at J; have J : Calls Tryz.prog 48 #[.slice (some ⟨g2, 0, none⟩) i cx, .string ⟨gap.toArray⟩] wr fun e w' => e = .returned (.string ⟨(Lib.join (xs.map txt) gap).toArray⟩) ∧ Below wr.heap.size wr w' := J
    rw [HR.out] at J; have J := hid J; clear hlen2 hdat htk hrg e2' e2''
    go_wp2_with fail
    refine J.out.mono ?_
    rintro e w9 ⟨rfl, ob⟩; have HO9 := hid (HO.out.trans (Only.ofBelow ob _)); clear ob
    go_wp2_with fail
    go_ret
    exact ⟨rfl, HO9.out⟩
theorem cq10_of {w : World} {g p : Nat} {x0 x1 x2 x3 x4 x5 x6 x7 x8 x9 : Value} (h : ∀ j q, ([x0, x1, x2, x3, x4, x5, x6, x7, x8, x9] : List Value)[j]? = some q → w.cell? ⟨g, p + j, none⟩ = some q) : w.cell? ⟨g, p, none⟩ = some x0 ∧ w.cell? ⟨g, p + 1, none⟩ = some x1 ∧ w.cell? ⟨g, p + 2, none⟩ = some x2 ∧ w.cell? ⟨g, p + 3, none⟩ = some x3 ∧ w.cell? ⟨g, p + 4, none⟩ = some x4 ∧ w.cell? ⟨g, p + 5, none⟩ = some x5 ∧ w.cell? ⟨g, p + 6, none⟩ = some x6 ∧ w.cell? ⟨g, p + 7, none⟩ = some x7 ∧ w.cell? ⟨g, p + 8, none⟩ = some x8 ∧ w.cell? ⟨g, p + 9, none⟩ = some x9 := ⟨h 0 _ rfl, h 1 _ rfl, h 2 _ rfl, h 3 _ rfl, h 4 _ rfl, h 5 _ rfl, h 6 _ rfl, h 7 _ rfl, h 8 _ rfl, h 9 _ rfl⟩
set_option maxRecDepth 100000 in
set_option maxHeartbeats 8000000 in
theorem pjoinD_any (xs : List VD) (txt : VD → List UInt8) (G : Nat → Prop) (w : World) (v : Value) (gap : List UInt8) (hg : 1 ≤ gap.length) (h : CellAt w G (.row 10 (xs.map vdC)) v)
  (hf : ∀ (i : Nat) (hi : i < xs.length) (wx : World) (cs : List Value), Only (fun _ => False) w wx → CellsAt wx G (vdC xs[i]) cs → Calls Tryz.prog 45 #[.agg cs.toArray] wx (fun e w' => e = .returned (.string ⟨(txt xs[i]).toArray⟩) ∧ Only (fun _ => False) wx w'))
  (hl : (Lib.join (xs.map txt) gap).length ≤ 1000000000000) :
  Calls Tryz.prog 44 #[v, .string ⟨gap.toArray⟩, .func (.func 45) #[] #[]] w (fun e w' => e = .returned (.string ⟨(Lib.join (xs.map txt) gap).toArray⟩) ∧ Only (fun _ => False) w w') := by
 have hn := join_few hg _ hl; rw [List.length_map] at hn; obtain ⟨av, cv, rfl, hcv, hcv', hV⟩ := rows_at h; obtain ⟨L, hL⟩ := eX (xs.length); obtain ⟨R, hR⟩ := eX (Lib.join (xs.map txt) gap); have HVV := hid hV; have HF := hid hf; have HL := hid hL; have HR := hid hR; have HLEN := hid hl; rw [hL] at hcv hn ⊢; rw [hR]; clear h hV hf hL hR hl
 go_enter Tryz.func44, Tryz.ntmps44
 go_wp2_with fail
 go_loopw [7, 12] (fun x y wr => ∃ i : Nat, y = .int .i64 (i : Int) ∧ Hid (i ≤ L ∧ Only (fun _ => False) w wr ∧ wr.ownsRow w.heap.size 9 1 x i ((xs.take i).map fun z => .string ⟨(txt z).toArray⟩))) (fun _ y _ => L - (intOf y).toNat)
 case atStart => exact ⟨0, rfl, hid ⟨by omega, oR, by rw [List.take_zero]; exact own_nil _ _ _ _⟩⟩
 case round =>
  obtain ⟨i, rfl, hrel⟩ := hrel; obtain ⟨hi, ho, hown⟩ := hrel.out; obtain ⟨ax, cx, ex, k1, k2, k3⟩ := own_form hown; subst ex; have k2' : cx ≤ 9223372036854775807 := by unfold maxLen at k2; omega
  have HO := hid ho; have HOWN := hid hown; have HK3 := hid k3; clear hrel ho hown k2 k3
  by_cases hlt : i < L
  ·have t1 : decide ((i : Int) < (L : Int)) = true := decide_eq_true (by omega); have hi0 : (0 : Int) ≤ (i : Int) := by omega
   have hi1 : (i : Int) < (L : Int) := by omega
   have hvi : i < xs.length := by rw [HL.out]; exact hlt
   obtain ⟨gv, ov, cs, rfl, hgv, hr, hc⟩ := HVV.out i hvi; obtain ⟨X, hX⟩ := eX (wr.heap.size); have hfi := fun (wx : World) (ox : Only (fun _ => False) w wx) => HF.out i hvi wx cs ox (CellsAt.only ox (fun _ _ h => h) _ _ hc)
   obtain ⟨s0, s1, a0, l0, e0, b1, b2, k, n, s, a1, l1, e1, a2, l2, e2, rfl⟩ := vdC_form2 hc; obtain ⟨w4, hw4⟩ := eX (wr.alloc (.cells #[.string ⟨s0.toArray⟩, .string ⟨s1.toArray⟩, .slice a0 l0 e0, .bool b1, .bool b2, .int .u8 (k : Int), .int .i64 n, .string ⟨s.toArray⟩, .slice a1 l1 e1, .slice a2 l2 e2] 60)); have o4 : Only (fun _ => False) wr w4 := by rw [← hw4]; exact (Only.refl _ _).alloc _
   have hx4 : w4.heap[X]? = some (.cells #[.string ⟨s0.toArray⟩, .string ⟨s1.toArray⟩, .slice a0 l0 e0, .bool b1, .bool b2, .int .u8 (k : Int), .int .i64 n, .string ⟨s.toArray⟩, .slice a1 l1 e1, .slice a2 l2 e2] 60 (0, 0)) := by rw [← hw4, ← hX]; exact heap_new _ _
   have J := hid (hfi w4 (HO.out.trans o4)); obtain ⟨e0_, e1_, e2_, e3_, e4_, e5_, e6_, e7_, e8_, e9_⟩ := cq10_of hr; have e0_ := keepc HO.out e0_; have e1_ := keepc HO.out e1_; have e2_ := keepc HO.out e2_; have e3_ := keepc HO.out e3_; have e4_ := keepc HO.out e4_; have e5_ := keepc HO.out e5_; have e6_ := keepc HO.out e6_; have e7_ := keepc HO.out e7_; have e8_ := keepc HO.out e8_; have e9_ := keepc HO.out e9_; obtain ⟨tx, htx⟩ := eX (txt xs[i]); rw [htx] at J; have HTX := hid htx; have HX := hid hX; have HW4 := hid hw4; have HO4 := hid (HO.out.trans o4); have HX4 := hid hx4; have O4 := hid o4; clear hfi hc hr hX hw4 o4 hx4 htx
   go_upto_region 5 with (fail)
   rw [HX.out, HW4.out]; clear e0_ e1_ e2_ e3_ e4_ e5_ e6_ e7_ e8_ e9_ HX HW4; obtain ⟨x0, x1, x2, x3, x4, x5, x6, x7, x8, x9, -⟩ := boxN10 HX4.out
   go_wp2_with fail
   refine J.out.mono ?_
   rintro e w5 ⟨rfl, o5⟩; obtain ⟨G5, hG5⟩ := eX (w5.heap.size); obtain ⟨w6, hw6⟩ := eX (w5.alloc (.cells #[.string ⟨tx.toArray⟩] 9)); have o6 : Only (fun _ => False) w5 w6 := by rw [← hw6]; exact (Only.refl _ _).alloc _
   have hx6 : w6.heap[G5]? = some (.cells #[.string ⟨tx.toArray⟩] 9 (0, 0)) := by rw [← hw6, ← hG5]; exact heap_new _ _
   have o46 : Only (fun _ => False) wr w6 := (O4.out.trans o5).trans o6; have hown6 := own_only' HOWN.out o46 (fun _ _ h => h); have hys : ∀ j u, ([.string ⟨tx.toArray⟩] : List Value)[j]? = some u → w6.cell? ((⟨G5, 0, none⟩ : Addr).add j) = some u := fun j u hu => by
    match j, hu with
    | 0, hu => rw [addr_add]; simp [World.cell?, hx6]; simpa using hu
   have hB6 : w.heap.size ≤ w6.heap.size := Nat.le_trans HO.out.size o46.size; have HO6 := hid (HO.out.trans o46); have HOWN6 := hid hown6; have HYS := hid hys; have HB6 := hid hB6; have HG5 := hid hG5; have HW6 := hid hw6; clear o5 o6 hx6 o46 hown6 hys hB6 hG5 hw6 x0 x1 x2 x3 x4 x5 x6 x7 x8 x9
   go_wp2_with ((rw [HG5.out, HW6.out]; refine wpList_append_own2 (o := ⟨some 21, _, _, _, _, _⟩) rfl (.tmp 16) (.tmp 20) 32 9 (by rfl) Tryz.underlying32 infoStrQ rfl (by decide) w.heap.size (.slice ax i cx) i 1 1 ((xs.take i).map fun z => .string ⟨(txt z).toArray⟩) [.string ⟨tx.toArray⟩] ⟨G5, 0, none⟩ (by rfl) (by rfl) HOWN6.out (by rfl) HYS.out (by intro u hu; simp at hu; subst hu; rfl) (by unfold maxLen; omega) (by omega) HB6.out ?_; intro v' w9 q1 q2 q3))
   have hoo : Only (fun _ => False) w w9 := HO6.out.trans' q2 (fun q hq h => by have := (HK3.out q h).1; omega); have hrow : w9.ownsRow w.heap.size 9 1 v' (i + 1) ((xs.take (i + 1)).map fun z => .string ⟨(txt z).toArray⟩) := by
    rw [List.take_succ_eq_append_getElem hvi, List.map_append, List.map_singleton, HTX.out]; exact q1
   have HNEW := hid (And.intro (show i + 1 ≤ L by omega) (And.intro hoo hrow)); clear q1 q2 q3 hoo hrow
   go_wp2_with fail
   go_roundw
   case rel => exact ⟨i + 1, by simp, HNEW⟩
   case measure => simp [intOf]; omega
  ·have t1 : decide ((i : Int) < (L : Int)) = false := decide_eq_false (by omega); have hiL : i = L := by omega
   subst hiL
   by_cases h0 : i = 0
   ·subst h0; have J := hid (Tryz.strings_Join_none ax cx ⟨gap.toArray⟩ wr); have hre : R = [] := by
     rw [← HR.out, List.eq_nil_of_length_eq_zero HL.out]; rfl
    have HRE := hid hre; clear hre
    go_wp2_with fail
    refine J.out.mono ?_
    rintro e w9 ⟨rfl, rfl⟩
    go_wp2_with fail
    go_ret
    exact ⟨by rw [HRE.out]; rfl, HO.out⟩
   ·obtain ⟨g2, c2, e2, hBg, hgw, hrg⟩ := own_range HOWN.out (by omega)
    injection e2 with e2 e2' e2''
    subst e2; have hlen2 : ((xs.map fun z => (⟨(txt z).toArray⟩ : ByteArray)).length) = i := by rw [List.length_map, HL.out]
    have hdat : (xs.map fun z => (⟨(txt z).toArray⟩ : ByteArray)).map (·.data.toList) = xs.map txt := by rw [List.map_map]; exact List.map_congr_left (fun z _ => rfl)
    have htk : xs.take i = xs := by rw [← HL.out]; exact List.take_length
    have J := Tryz.strings_Join g2 0 cx (xs.map fun z => (⟨(txt z).toArray⟩ : ByteArray)) ⟨gap.toArray⟩ wr (fun j x hj => by
     rw [List.getElem?_map] at hj; obtain ⟨z, hz, rfl⟩ : ∃ z, xs[j]? = some z ∧ (⟨(txt z).toArray⟩ : ByteArray) = x := by
      cases hq : xs[j]? with
      | none => rw [hq] at hj; cases hj
      | some z => rw [hq] at hj; injection hj with hj; exact ⟨z, rfl, hj⟩
     exact hrg j _ (by rw [htk, List.getElem?_map, hz]; rfl)) hgw (by rw [hlen2]; omega) (by rw [hlen2]; omega) (by rw [hdat]; show (Lib.join _ gap).length ≤ _; have := HLEN.out; omega)
    rw [hlen2, hdat] at J; have J : Calls Tryz.prog 48 #[.slice (some ⟨g2, 0, none⟩) i cx, .string ⟨gap.toArray⟩] wr fun e w' => e = .returned (.string ⟨(Lib.join (xs.map txt) gap).toArray⟩) ∧ Below wr.heap.size wr w' := J
    rw [HR.out] at J; have J := hid J; clear hlen2 hdat htk hrg e2' e2''
    go_wp2_with fail
    refine J.out.mono ?_
    rintro e w9 ⟨rfl, ob⟩; have HO9 := hid (HO.out.trans (Only.ofBelow ob _)); clear ob
    go_wp2_with fail
    go_ret
    exact ⟨rfl, HO9.out⟩
end Go.Proofs.YtnkpoddbbdmipaaGreatDoor
