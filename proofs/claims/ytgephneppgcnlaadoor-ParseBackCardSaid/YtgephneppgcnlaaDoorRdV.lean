/- parse.reader.variable. -/
import Derived.Test.YtgephneppgcnlaaDoorEnD
import Derived.Test.YtgephneppgcnlaaDoorOwC
import Derived.Test.YtgephneppgcnlaaDoorPva
namespace Go.Proofs.YtgephneppgcnlaaDoor
open Go Go.RowKit
set_option linter.unusedVariables false
set_option linter.unusedSimpArgs false

set_option maxRecDepth 100000 in
set_option maxHeartbeats 40000000 in
theorem variable_any (b : Nat) (all r : List Tok) (w : World) (h : RdP w b all r (24 - ((24 : Nat) : Int))) :
    Calls Tryd.prog 55 #[.pointer (some ⟨b, 0, none⟩)] w (Ans w b all (24 - ((24 : Nat) : Int)) (aggP w.heap.size vdC) (varP r)) := by
  have hbl := h.lt
  have CT := fun (r : List Tok) (w : World) (h : RdP w b all r (24 - ((24 : Nat) : Int))) => typ_any 24 b all r w (by decide) h
  have CV := fun (r : List Tok) (w : World) (h : RdP w b all r (24 - ((24 : Nat) : Int))) => value_any true 24 b all r w (by decide) h
  obtain ⟨dp, hdp⟩ : ∃ dp : Int, 24 - ((24 : Nat) : Int) = dp := ⟨_, rfl⟩
  rw [hdp] at h ⊢
  rw [hdp] at CT
  rw [hdp] at CV
  clear hdp
  obtain ⟨B, hB⟩ : ∃ B, w.heap.size = B := ⟨_, rfl⟩
  have hbB : b < B := by omega
  obtain ⟨Q, hQ⟩ : ∃ Q, Ans w b all dp (aggP w.heap.size vdC) (varP r) = Q := ⟨_, rfl⟩
  rw [hQ]
  have fb : ∀ a c w' r'' dp', varP r = .bad a c → RdP w' b all r'' dp' → atT r'' = a → dp ≤ dp' → dp' ≤ dp + 1 → Only (fun k => k = b) w w' → Q (.panicked (faultV c)) w' := fun a c w' r'' dp' e h1 h2 h3 h4 h5 => by
    rw [← hQ, e]; exact ⟨rfl, ⟨r'', dp', h1, h2, h3, h4⟩, h5⟩
  have fo : ∀ x r'' w' v, varP r = .ok x r'' → aggP B vdC w' x v → RdP w' b all r'' dp → Only (fun k => k = b) w w' → Q (.returned v) w' := fun x r'' w' v e h1 h2 h3 => by
    rw [← hQ, e]; exact ⟨v, rfl, by rw [hB]; exact h1, h2, h3⟩
  have hs0 : varP r = varP r := rfl
  conv at hs0 => rhs; unfold varP
  obtain ⟨w0, hw0⟩ : ∃ w0, w.alloc (.cells #[.string ⟨#[]⟩, .string ⟨#[]⟩, .slice none 0 0, .bool false, .bool false, .int .u8 0, .int .i64 0, .string ⟨#[]⟩, .slice none 0 0, .slice none 0 0] 47) = w0 := ⟨_, rfl⟩
  have hr0 : w0.heap[B]? = some (.cells #[.string ⟨#[]⟩, .string ⟨#[]⟩, .slice none 0 0, .bool false, .bool false, .int .u8 0, .int .i64 0, .string ⟨#[]⟩, .slice none 0 0, .slice none 0 0] 47 (0, 0)) := by rw [← hw0, ← hB]; exact heap_new _ _
  have h0 : RdP w0 b all r dp := by rw [← hw0]; exact h.still ((Only.refl (fun _ => False) w).alloc _)
  have ho0 : Only (fun k => k = b) w w0 := by rw [← hw0]; exact (Only.refl _ w).alloc _
  have FB := Lib.hid fb; have FO := Lib.hid fo; have HS0 := Lib.hid hs0; have HR0 := Lib.hid hr0; have H0 := Lib.hid h0; have HO0 := Lib.hid ho0; have HW0 := Lib.hid hw0; have HBB := Lib.hid hB; have HWB := Lib.hid (show w.heap.size ≤ B by omega)
  have KCT := Lib.hid CT
  have KCV := Lib.hid CV
  clear fb fo hs0 hr0 h0 ho0 hw0 hB hQ h CT CV
  go_enter Tryd.func55, Tryd.ntmps55
  go_upto_region 1 with (fail)
  rw [HBB.out, HW0.out]
  clear HW0
  have J := Lib.hid (want_any b all r dp [36] w0 H0.out)
  cases hq : wantP [36] r with
  | bad a c =>
    rw [hq] at J
    have HE := Lib.hid (HS0.out.trans (bind_bad hq)); clear hq
    go_wp2_with fail
    refine J.out.mono ?_
    rintro e wz ⟨rfl, ⟨r'', dp', h1, h2, h3, h4⟩, h5⟩
    exact ⟨rfl, FB.out _ _ _ _ _ HE.out h1 h2 h3 h4 (HO0.out.trans h5)⟩
  | ok u r1 =>
    rw [hq] at J
    have HS1 := Lib.hid (HS0.out.trans (bind_ok hq)); clear hq HS0
    go_wp2_with fail
    refine J.out.mono ?_
    rintro e w1 ⟨v, rfl, hv, h4, o4⟩
    have hv : v = .tuple #[] := hv
    subst hv
    have hr1 := (o4.block B (Array.getElem?_eq_some_iff.1 HR0.out).1 (by omega)).trans HR0.out
    have HR1 := Lib.hid hr1
    have HO1 := Lib.hid (HO0.out.trans' o4 (fun q hq e => by exact e))
    clear hr1
    have H1 := Lib.hid h4; clear h4 o4 J
    clear HR0 HO0 H0
    have J := Lib.hid (name_any b all r1 dp w1 H1.out)
    cases hq : nameP r1 with
    | bad a c =>
      rw [hq] at J
      have HE := Lib.hid (HS1.out.trans (bind_bad hq)); clear hq
      go_wp2_with fail
      refine J.out.mono ?_
      rintro e wz ⟨rfl, ⟨r'', dp', h1, h2, h3, h4⟩, h5⟩
      exact ⟨rfl, FB.out _ _ _ _ _ HE.out h1 h2 h3 h4 (HO1.out.trans h5)⟩
    | ok s r2 =>
      rw [hq] at J
      have HS2 := Lib.hid (HS1.out.trans (bind_ok hq)); clear hq HS1
      go_wp2_with fail
      refine J.out.mono ?_
      rintro e w2 ⟨v, rfl, hv, h4, o4⟩
      have hv : v = .string ⟨s.toArray⟩ := hv
      subst hv
      have hr2 := (o4.block B (Array.getElem?_eq_some_iff.1 HR1.out).1 (by omega)).trans HR1.out
      have HR2 := Lib.hid hr2
      have HO2 := Lib.hid (HO1.out.trans' o4 (fun q hq e => by exact e))
      clear hr2
      have H2 := Lib.hid h4; clear h4 o4 J
      clear HR1 HO1 H1
      have hsz3 : B < w2.heap.size := (Array.getElem?_eq_some_iff.1 HR2.out).1
      obtain ⟨Y, hY⟩ : ∃ Y, w2.heap.size = Y := ⟨_, rfl⟩
      obtain ⟨w3, hw3⟩ : ∃ x, w2.alloc (.cells #[.string ⟨s.toArray⟩, .string ⟨#[]⟩, .slice none 0 0, .bool false, .bool false, .int .u8 0, .int .i64 0, .string ⟨#[]⟩, .slice none 0 0, .slice none 0 0] 47) = x := ⟨_, rfl⟩
      have hy3 : w3.heap[Y]? = some (.cells #[.string ⟨s.toArray⟩, .string ⟨#[]⟩, .slice none 0 0, .bool false, .bool false, .int .u8 0, .int .i64 0, .string ⟨#[]⟩, .slice none 0 0, .slice none 0 0] 47 (0, 0)) := by rw [← hw3, ← hY]; exact heap_new _ _
      have hr3 : w3.heap[B]? = some (.cells #[.string ⟨#[]⟩, .string ⟨#[]⟩, .slice none 0 0, .bool false, .bool false, .int .u8 0, .int .i64 0, .string ⟨#[]⟩, .slice none 0 0, .slice none 0 0] 47 (0, 0)) := by rw [← hw3]; exact heap_old HR2.out _
      have oa3 : Only (fun _ => False) w2 w3 := by rw [← hw3]; exact (Only.refl _ _).alloc _
      rw [hY] at hsz3
      have HY3 := Lib.hid hy3; have HR3 := Lib.hid hr3; have H3 := Lib.hid (H2.out.still oa3); have HO3 := Lib.hid (HO2.out.trans' oa3 (fun q _ e => e.elim)); have HW3 := Lib.hid hw3; have HYY := Lib.hid hY; have HS3 := HS2
      clear hy3 hr3 hw3 hY oa3 HR2 H2 HO2 HS2
      go_upto_region 3 with (fail)
      rw [HYY.out, HW3.out]
      clear HYY HW3
      have J := Lib.hid (want_any b all r2 dp [58] w3 H3.out)
      cases hq : wantP [58] r2 with
      | bad a c =>
        rw [hq] at J
        have HE := Lib.hid (HS3.out.trans (bind_bad hq)); clear hq
        go_wp2_with fail
        refine J.out.mono ?_
        rintro e wz ⟨rfl, ⟨r'', dp', h1, h2, h3, h4⟩, h5⟩
        exact ⟨rfl, FB.out _ _ _ _ _ HE.out h1 h2 h3 h4 (HO3.out.trans h5)⟩
      | ok u2 r3 =>
        rw [hq] at J
        have HS4 := Lib.hid (HS3.out.trans (bind_ok hq)); clear hq HS3
        go_wp2_with fail
        refine J.out.mono ?_
        rintro e w4 ⟨v, rfl, hv, h4, o4⟩
        have hv : v = .tuple #[] := hv
        subst hv
        have hr4 := (o4.block B (Array.getElem?_eq_some_iff.1 HR3.out).1 (by omega)).trans HR3.out
        have HR4 := Lib.hid hr4
        have hy4 := (o4.block Y (Array.getElem?_eq_some_iff.1 HY3.out).1 (by omega)).trans HY3.out
        have HY4 := Lib.hid hy4
        have HO4 := Lib.hid (HO3.out.trans' o4 (fun q hq e => by exact e))
        clear hr4 hy4
        have H4 := Lib.hid h4; clear h4 o4 J
        clear HR3 HO3 H3 HY3
        have J := Lib.hid (KCT.out r3 w4 H4.out)
        cases hq : typP 24 r3 with
        | bad a c =>
          rw [hq] at J
          have HE := Lib.hid (HS4.out.trans (bind_bad hq)); clear hq
          go_wp2_with fail
          refine J.out.mono ?_
          rintro e wz ⟨rfl, ⟨r'', dp', h1, h2, h3, h4⟩, h5⟩
          exact ⟨rfl, FB.out _ _ _ _ _ HE.out h1 h2 h3 h4 (HO4.out.trans h5)⟩
        | ok t r4 =>
          rw [hq] at J
          have HS5 := Lib.hid (HS4.out.trans (bind_ok hq)); clear hq HS4
          go_wp2_with fail
          refine J.out.mono ?_
          rintro e w5 ⟨v, rfl, hv, h4, o4⟩
          obtain ⟨cs, rfl, hv⟩ := hv
          have hsy5 : Y < w4.heap.size := (Array.getElem?_eq_some_iff.1 HY4.out).1
          have hv := CellsAt.weaken (G' := fun q => Y < q) (fun q _ h => by have h : w4.heap.size ≤ q := h; show Y < q; omega) _ _ hv
          obtain ⟨st, at1, lt1, et1, bt1, rfl⟩ := trC_form2 hv
          have HP5 := Lib.hid hv; clear hv
          have hr5 := (o4.block B (Array.getElem?_eq_some_iff.1 HR4.out).1 (by omega)).trans HR4.out
          have HR5 := Lib.hid hr5
          have hy5 := (o4.block Y (Array.getElem?_eq_some_iff.1 HY4.out).1 (by omega)).trans HY4.out
          have HY5 := Lib.hid hy5
          have HO5 := Lib.hid (HO4.out.trans' o4 (fun q hq e => by exact e))
          clear hr5 hy5
          have H5 := Lib.hid h4; clear h4 o4 J
          clear HR4 HO4 H4 HY4
          go_upto_region 5 with ((refine wpList_store_part (o := ⟨none, _, _, _, _, _⟩) rfl 42 (.tmp 13) (.tmp 12) (by rfl) Y 1 47 [.string ⟨s.toArray⟩] [.string ⟨#[]⟩, .slice none 0 0, .bool false] [.string ⟨st.toArray⟩, .slice at1 lt1 et1, .bool bt1] [.bool false, .int .u8 0, .int .i64 0, .string ⟨#[]⟩, .slice none 0 0, .slice none 0 0] (by rfl) (by rfl) HY5.out (by rfl) (by rfl) (by kernel_rfl) (by intro u hu; simp at hu; rcases hu with rfl | rfl | rfl <;> rfl) ?_; intro w6 k1 k2))
          have hy6 : w6.heap[Y]? = some (.cells #[.string ⟨s.toArray⟩, .string ⟨st.toArray⟩, .slice at1 lt1 et1, .bool bt1, .bool false, .int .u8 0, .int .i64 0, .string ⟨#[]⟩, .slice none 0 0, .slice none 0 0] 47 (0, 0)) := k1
          have HY6 := Lib.hid hy6
          have H6 := Lib.hid (H5.out.only k2 (fun k hk e => by omega)); have HS6 := HS5
          have HF6_1 := Lib.hid (CellsAt.only k2 (fun k hk e => by omega) _ _ HP5.out)
          have hr6 := (k2.block B (Array.getElem?_eq_some_iff.1 HR5.out).1 (by omega)).trans HR5.out
          have HR6 := Lib.hid hr6
          have HO6 := Lib.hid (HO5.out.trans' k2 (fun q hq e => by have e : q = Y := e; have := HWB.out; omega))
          clear hr6
          clear hy6 k1 k2 HS5 HP5
          clear HR5 HO5 H5 HY5
          have J := Lib.hid (take_any b all r4 dp [61] w6 H6.out)
          unfold tookP at J
          obtain ⟨bb7, hb7⟩ : ∃ x, isT [61] r4 = x := ⟨_, rfl⟩
          rw [hb7] at J
          have HBT7 := Lib.hid hb7; clear hb7
          cases bb7
          rotate_left
          ·
            rw [if_pos rfl] at J
            go_wp2_with fail
            refine J.out.mono ?_
            rintro e w7 ⟨rfl, h4, o4⟩
            have hr7 := (o4.block B (Array.getElem?_eq_some_iff.1 HR6.out).1 (by omega)).trans HR6.out
            have HR7 := Lib.hid hr7
            have hy7 := (o4.block Y (Array.getElem?_eq_some_iff.1 HY6.out).1 (by omega)).trans HY6.out
            have HY7 := Lib.hid hy7
            have HF7_1 := Lib.hid (CellsAt.only o4 (fun k hk e => by omega) _ _ HF6_1.out)
            have HO7 := Lib.hid (HO6.out.trans' o4 (fun q hq e => by exact e))
            clear hr7 hy7
            have H7 := Lib.hid h4; clear h4 o4 J
            have HS7 := Lib.hid (HS6.out.trans (if_pos HBT7.out))
            clear HS6
            clear HR6 HO6 H6 HY6 HF6_1
            obtain ⟨y0, y1, y2, y3, y4, y5, y6, y7, y8, y9, yz⟩ := boxN10 HY7.out
            go_upto_region 6 with (fail)
            clear y0 y1 y2 y3 y4 y5 y6 y7 y8 y9 yz
            have hy8 := heap_set (o := 4) HY7.out (.bool true)
            have hy8 : (w7.setCell ⟨Y, 4, none⟩ (.bool true)).heap[Y]? = some (.cells #[.string ⟨s.toArray⟩, .string ⟨st.toArray⟩, .slice at1 lt1 et1, .bool bt1, .bool true, .int .u8 0, .int .i64 0, .string ⟨#[]⟩, .slice none 0 0, .slice none 0 0] 47 (0, 0)) := by simpa using hy8
            have os8 : Only (fun k => k = Y) w7 (w7.setCell ⟨Y, 4, none⟩ (.bool true)) := (Only.refl (fun k => k = Y) _).setCell (p := ⟨Y, 4, none⟩) (.inl rfl) _
            obtain ⟨w8, hw8⟩ : ∃ x, w7.setCell ⟨Y, 4, none⟩ (.bool true) = x := ⟨_, rfl⟩
            rw [hw8] at hy8 os8
            rw [hw8]
            clear hw8
            have HY8 := Lib.hid hy8
            have H8 := Lib.hid (H7.out.only os8 (fun k hk e => by omega)); have HS8 := HS7
            have hr8 := (os8.block B (Array.getElem?_eq_some_iff.1 HR7.out).1 (by omega)).trans HR7.out
            have HR8 := Lib.hid hr8
            have HF8_1 := Lib.hid (CellsAt.only os8 (fun k hk e => by omega) _ _ HF7_1.out)
            have HO8 := Lib.hid (HO7.out.trans' os8 (fun q hq e => by have e : q = Y := e; have := HWB.out; omega))
            clear hr8
            clear hy8 os8 HS7
            clear HR7 HO7 H7 HY7 HF7_1
            obtain ⟨y0, y1, y2, y3, y4, y5, y6, y7, y8, y9, yz⟩ := boxN10 HY8.out
            have J := Lib.hid (KCV.out r4.tail w8 H8.out)
            cases hq : valueP true 24 r4.tail with
            | bad a c =>
              rw [hq] at J
              have HE := Lib.hid (HS8.out.trans (bind_bad hq)); clear hq
              go_wp2_with fail
              refine J.out.mono ?_
              rintro e wz ⟨rfl, ⟨r'', dp', h1, h2, h3, h4⟩, h5⟩
              exact ⟨rfl, FB.out _ _ _ _ _ HE.out h1 h2 h3 h4 (HO8.out.trans h5)⟩
            | ok y r5 =>
              rw [hq] at J
              have HS9 := Lib.hid (HS8.out.trans (bind_ok hq)); clear hq HS8
              go_wp2_with fail
              refine J.out.mono ?_
              rintro e w9 ⟨v, rfl, hv, h4, o4⟩
              obtain ⟨cs, rfl, hv⟩ := hv
              have hsy9 : Y < w8.heap.size := (Array.getElem?_eq_some_iff.1 HY8.out).1
              have hv := CellsAt.weaken (G' := fun q => Y < q) (fun q _ h => by have h : w8.heap.size ≤ q := h; show Y < q; omega) _ _ hv
              obtain ⟨kd, nm, sv, a1, l1, e1, a2, l2, e2, rfl⟩ := valC_form2 hv
              have HP9 := Lib.hid hv; clear hv
              have hr9 := (o4.block B (Array.getElem?_eq_some_iff.1 HR8.out).1 (by omega)).trans HR8.out
              have HR9 := Lib.hid hr9
              have hy9 := (o4.block Y (Array.getElem?_eq_some_iff.1 HY8.out).1 (by omega)).trans HY8.out
              have HY9 := Lib.hid hy9
              have HF9_1 := Lib.hid (CellsAt.only o4 (fun k hk e => by omega) _ _ HF8_1.out)
              have HO9 := Lib.hid (HO8.out.trans' o4 (fun q hq e => by exact e))
              clear hr9 hy9
              have H9 := Lib.hid h4; clear h4 o4 J
              clear HR8 HO8 H8 HY8 HF8_1
              clear y0 y1 y2 y3 y4 y5 y6 y7 y8 y9 yz
              go_upto_region 8 with ((refine wpList_store_part (o := ⟨none, _, _, _, _, _⟩) rfl 45 (.tmp 21) (.tmp 20) (by rfl) Y 5 47 [.string ⟨s.toArray⟩, .string ⟨st.toArray⟩, .slice at1 lt1 et1, .bool bt1, .bool true] [.int .u8 0, .int .i64 0, .string ⟨#[]⟩, .slice none 0 0, .slice none 0 0] [.int .u8 (kd : Int), .int .i64 nm, .string ⟨sv.toArray⟩, .slice a1 l1 e1, .slice a2 l2 e2] [] (by rfl) (by rfl) HY9.out (by rfl) (by rfl) (by kernel_rfl) (by intro u hu; simp at hu; rcases hu with rfl | rfl | rfl | rfl | rfl <;> rfl) ?_; intro w10 k1 k2))
              have hy10 : w10.heap[Y]? = some (.cells #[.string ⟨s.toArray⟩, .string ⟨st.toArray⟩, .slice at1 lt1 et1, .bool bt1, .bool true, .int .u8 (kd : Int), .int .i64 nm, .string ⟨sv.toArray⟩, .slice a1 l1 e1, .slice a2 l2 e2] 47 (0, 0)) := k1
              have HY10 := Lib.hid hy10
              have H10 := Lib.hid (H9.out.only k2 (fun k hk e => by omega)); have HS10 := HS9
              have HF10_5 := Lib.hid (CellsAt.only k2 (fun k hk e => by omega) _ _ HP9.out)
              have hr10 := (k2.block B (Array.getElem?_eq_some_iff.1 HR9.out).1 (by omega)).trans HR9.out
              have HR10 := Lib.hid hr10
              have HF10_1 := Lib.hid (CellsAt.only k2 (fun k hk e => by omega) _ _ HF9_1.out)
              have HO10 := Lib.hid (HO9.out.trans' k2 (fun q hq e => by have e : q = Y := e; have := HWB.out; omega))
              clear hr10
              clear hy10 k1 k2 HS9 HP9
              clear HR9 HO9 H9 HY9 HF9_1
              obtain ⟨y0, y1, y2, y3, y4, y5, y6, y7, y8, y9, yz⟩ := boxN10 HY10.out
              go_wp2_with ((refine wpList_store_box (o := ⟨none, _, _, _, _, _⟩) rfl 47 (.tmp 2) (.tmp 22) (by rfl) B [.string ⟨#[]⟩, .string ⟨#[]⟩, .slice none 0 0, .bool false, .bool false, .int .u8 0, .int .i64 0, .string ⟨#[]⟩, .slice none 0 0, .slice none 0 0] [.string ⟨s.toArray⟩, .string ⟨st.toArray⟩, .slice at1 lt1 et1, .bool bt1, .bool true, .int .u8 (kd : Int), .int .i64 nm, .string ⟨sv.toArray⟩, .slice a1 l1 e1, .slice a2 l2 e2] (by rfl) (by rfl) HR10.out (by rfl) (by kernel_rfl) (by intro u hu; simp at hu; rcases hu with rfl | rfl | rfl | rfl | rfl | rfl | rfl | rfl | rfl | rfl <;> rfl) ?_; intro w9 k1 k2))
              clear y0 y1 y2 y3 y4 y5 y6 y7 y8 y9 yz
              obtain ⟨y0, y1, y2, y3, y4, y5, y6, y7, y8, y9, -⟩ := boxN10 k1
              have hf1 := CellsAt.weaken (G' := fun q => B ≤ q) (fun q _ h => by have h : Y < q := h; show B ≤ q; omega) _ _ (CellsAt.only k2 (fun k hk e => by omega) _ _ HF10_1.out)
              have hf5 := CellsAt.weaken (G' := fun q => B ≤ q) (fun q _ h => by have h : Y < q := h; show B ≤ q; omega) _ _ (CellsAt.only k2 (fun k hk e => by omega) _ _ HF10_5.out)
              exact bodyPost_ret (v := .agg #[.string ⟨s.toArray⟩, .string ⟨st.toArray⟩, .slice at1 lt1 et1, .bool bt1, .bool true, .int .u8 (kd : Int), .int .i64 nm, .string ⟨sv.toArray⟩, .slice a1 l1 e1, .slice a2 l2 e2]) (by simp [results, Tryd.results55, go_sem, y0, y1, y2, y3, y4, y5, y6, y7, y8, y9]) rfl (FO.out (⟨s, t, true, y⟩) _ w9 _ HS10.out ⟨_, rfl, CellsAt.lit rfl (CellsAt.app hf1 (CellsAt.lit rfl (hf5)))⟩ (H10.out.only k2 (fun k hk e => by omega)) (HO10.out.trans' k2 (fun q hq e => by have := HWB.out; omega)))
          ·
            rw [if_neg (by decide)] at J
            go_wp2_with fail
            refine J.out.mono ?_
            rintro e w7 ⟨rfl, h4, o4⟩
            have hr7 := (o4.block B (Array.getElem?_eq_some_iff.1 HR6.out).1 (by omega)).trans HR6.out
            have HR7 := Lib.hid hr7
            have hy7 := (o4.block Y (Array.getElem?_eq_some_iff.1 HY6.out).1 (by omega)).trans HY6.out
            have HY7 := Lib.hid hy7
            have HF7_1 := Lib.hid (CellsAt.only o4 (fun k hk e => by omega) _ _ HF6_1.out)
            have HO7 := Lib.hid (HO6.out.trans' o4 (fun q hq e => by exact e))
            clear hr7 hy7
            have H7 := Lib.hid h4; clear h4 o4 J
            have HS7 := Lib.hid (HS6.out.trans (if_neg (by rw [HBT7.out]; decide)))
            clear HS6
            clear HR6 HO6 H6 HY6 HF6_1
            obtain ⟨y0, y1, y2, y3, y4, y5, y6, y7, y8, y9, yz⟩ := boxN10 HY7.out
            go_upto_region 6 with (fail)
            clear y0 y1 y2 y3 y4 y5 y6 y7 y8 y9 yz
            have hy8 := heap_set (o := 4) HY7.out (.bool false)
            have hy8 : (w7.setCell ⟨Y, 4, none⟩ (.bool false)).heap[Y]? = some (.cells #[.string ⟨s.toArray⟩, .string ⟨st.toArray⟩, .slice at1 lt1 et1, .bool bt1, .bool false, .int .u8 0, .int .i64 0, .string ⟨#[]⟩, .slice none 0 0, .slice none 0 0] 47 (0, 0)) := by simpa using hy8
            have os8 : Only (fun k => k = Y) w7 (w7.setCell ⟨Y, 4, none⟩ (.bool false)) := (Only.refl (fun k => k = Y) _).setCell (p := ⟨Y, 4, none⟩) (.inl rfl) _
            obtain ⟨w8, hw8⟩ : ∃ x, w7.setCell ⟨Y, 4, none⟩ (.bool false) = x := ⟨_, rfl⟩
            rw [hw8] at hy8 os8
            rw [hw8]
            clear hw8
            have HY8 := Lib.hid hy8
            have H8 := Lib.hid (H7.out.only os8 (fun k hk e => by omega)); have HS8 := HS7
            have hr8 := (os8.block B (Array.getElem?_eq_some_iff.1 HR7.out).1 (by omega)).trans HR7.out
            have HR8 := Lib.hid hr8
            have HF8_1 := Lib.hid (CellsAt.only os8 (fun k hk e => by omega) _ _ HF7_1.out)
            have HO8 := Lib.hid (HO7.out.trans' os8 (fun q hq e => by have e : q = Y := e; have := HWB.out; omega))
            clear hr8
            clear hy8 os8 HS7
            clear HR7 HO7 H7 HY7 HF7_1
            obtain ⟨y0, y1, y2, y3, y4, y5, y6, y7, y8, y9, yz⟩ := boxN10 HY8.out
            go_upto_region 8 with (fail)
            clear y0 y1 y2 y3 y4 y5 y6 y7 y8 y9 yz
            obtain ⟨y0, y1, y2, y3, y4, y5, y6, y7, y8, y9, yz⟩ := boxN10 HY8.out
            go_wp2_with ((refine wpList_store_box (o := ⟨none, _, _, _, _, _⟩) rfl 47 (.tmp 2) (.tmp 22) (by rfl) B [.string ⟨#[]⟩, .string ⟨#[]⟩, .slice none 0 0, .bool false, .bool false, .int .u8 0, .int .i64 0, .string ⟨#[]⟩, .slice none 0 0, .slice none 0 0] [.string ⟨s.toArray⟩, .string ⟨st.toArray⟩, .slice at1 lt1 et1, .bool bt1, .bool false, .int .u8 0, .int .i64 0, .string ⟨#[]⟩, .slice none 0 0, .slice none 0 0] (by rfl) (by rfl) HR8.out (by rfl) (by kernel_rfl) (by intro u hu; simp at hu; rcases hu with rfl | rfl | rfl | rfl | rfl | rfl | rfl | rfl | rfl | rfl <;> rfl) ?_; intro w9 k1 k2))
            clear y0 y1 y2 y3 y4 y5 y6 y7 y8 y9 yz
            obtain ⟨y0, y1, y2, y3, y4, y5, y6, y7, y8, y9, -⟩ := boxN10 k1
            have hf1 := CellsAt.weaken (G' := fun q => B ≤ q) (fun q _ h => by have h : Y < q := h; show B ≤ q; omega) _ _ (CellsAt.only k2 (fun k hk e => by omega) _ _ HF8_1.out)
            exact bodyPost_ret (v := .agg #[.string ⟨s.toArray⟩, .string ⟨st.toArray⟩, .slice at1 lt1 et1, .bool bt1, .bool false, .int .u8 0, .int .i64 0, .string ⟨#[]⟩, .slice none 0 0, .slice none 0 0]) (by simp [results, Tryd.results55, go_sem, y0, y1, y2, y3, y4, y5, y6, y7, y8, y9]) rfl (FO.out (⟨s, t, false, VT.zero⟩) _ w9 _ HS8.out ⟨_, rfl, CellsAt.lit rfl (CellsAt.app hf1 (CellsAt.lit rfl (leafC 0 0 [])))⟩ (H8.out.only k2 (fun k hk e => by omega)) (HO8.out.trans' k2 (fun q hq e => by have := HWB.out; omega)))
end Go.Proofs.YtgephneppgcnlaaDoor
