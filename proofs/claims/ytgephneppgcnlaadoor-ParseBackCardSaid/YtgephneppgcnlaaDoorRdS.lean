/- parse.reader.selection. -/
import Derived.Test.YtgephneppgcnlaaDoorEnD
import Derived.Test.YtgephneppgcnlaaDoorOwC
import Derived.Test.YtgephneppgcnlaaDoorRsd
import Derived.Test.YtgephneppgcnlaaDoorRgA
import Derived.RegionDies
namespace Go.Proofs.YtgephneppgcnlaaDoor
open Go Go.RowKit
set_option linter.unusedVariables false
set_option linter.unusedSimpArgs false

set_option maxRecDepth 100000 in
set_option maxHeartbeats 40000000 in
theorem selection_any (d : Nat) (hd : d ≤ 24) (b : Nat) (all r : List Tok) (w : World) (HSET : ∀ (r : List Tok) (w : World), RdP w b all r (24 - (d : Int)) → Calls Tryd.prog 28 #[.pointer (some ⟨b, 0, none⟩)] w (Ans w b all (24 - (d : Int)) (rowP w.heap.size 7 selC) (setP d r))) (h : RdP w b all r (24 - (d : Int))) :
    Calls Tryd.prog 49 #[.pointer (some ⟨b, 0, none⟩)] w (Ans w b all (24 - (d : Int)) (aggP w.heap.size selC) (selP d (setP d) r)) := by
  have hbl := h.lt
  have CS := HSET
  have CD := fun (r : List Tok) (w : World) (h : RdP w b all r (24 - (d : Int))) => directives_any d hd b all r w h
  have CA := fun (r : List Tok) (w : World) (h : RdP w b all r (24 - (d : Int))) => args_any d hd b all r w h
  obtain ⟨dp, hdp⟩ : ∃ dp : Int, 24 - (d : Int) = dp := ⟨_, rfl⟩
  rw [hdp] at h ⊢
  rw [hdp] at CS
  rw [hdp] at CD
  rw [hdp] at CA
  clear hdp
  obtain ⟨B, hB⟩ : ∃ B, w.heap.size = B := ⟨_, rfl⟩
  have hbB : b < B := by omega
  obtain ⟨Q, hQ⟩ : ∃ Q, Ans w b all dp (aggP w.heap.size selC) (selP d (setP d) r) = Q := ⟨_, rfl⟩
  rw [hQ]
  have fb : ∀ a c w' r'' dp', selP d (setP d) r = .bad a c → RdP w' b all r'' dp' → atT r'' = a → dp ≤ dp' → dp' ≤ dp + 1 → Only (fun k => k = b) w w' → Q (.panicked (faultV c)) w' := fun a c w' r'' dp' e h1 h2 h3 h4 h5 => by
    rw [← hQ, e]; exact ⟨rfl, ⟨r'', dp', h1, h2, h3, h4⟩, h5⟩
  have fo : ∀ x r'' w' v, selP d (setP d) r = .ok x r'' → aggP B selC w' x v → RdP w' b all r'' dp → Only (fun k => k = b) w w' → Q (.returned v) w' := fun x r'' w' v e h1 h2 h3 => by
    rw [← hQ, e]; exact ⟨v, rfl, by rw [hB]; exact h1, h2, h3⟩
  have hs0 : selP d (setP d) r = selP d (setP d) r := rfl
  conv at hs0 => rhs; unfold selP
  obtain ⟨w0, hw0⟩ : ∃ w0, w.alloc (.cells #[.int .u8 0, .string ⟨#[]⟩, .string ⟨#[]⟩, .string ⟨#[]⟩, .slice none 0 0, .slice none 0 0, .slice none 0 0] 51) = w0 := ⟨_, rfl⟩
  have hr0 : w0.heap[B]? = some (.cells #[.int .u8 0, .string ⟨#[]⟩, .string ⟨#[]⟩, .string ⟨#[]⟩, .slice none 0 0, .slice none 0 0, .slice none 0 0] 51 (0, 0)) := by rw [← hw0, ← hB]; exact heap_new _ _
  have h0 : RdP w0 b all r dp := by rw [← hw0]; exact h.still ((Only.refl (fun _ => False) w).alloc _)
  have ho0 : Only (fun k => k = b) w w0 := by rw [← hw0]; exact (Only.refl _ w).alloc _
  have FB := Lib.hid fb; have FO := Lib.hid fo; have HS0 := Lib.hid hs0; have HR0 := Lib.hid hr0; have H0 := Lib.hid h0; have HO0 := Lib.hid ho0; have HW0 := Lib.hid hw0; have HBB := Lib.hid hB; have HWB := Lib.hid (show w.heap.size ≤ B by omega)
  have KCS := Lib.hid CS
  have KCD := Lib.hid CD
  have KCA := Lib.hid CA
  clear fb fo hs0 hr0 h0 ho0 hw0 hB hQ h CS CD CA
  go_enter Tryd.func49, Tryd.ntmps49
  go_upto_region 1 with (fail)
  rw [HBB.out, HW0.out]
  clear HW0
  have J := Lib.hid (take_any b all r dp wDots w0 H0.out)
  unfold tookP at J
  obtain ⟨bb1, hb1⟩ : ∃ x, isT wDots r = x := ⟨_, rfl⟩
  rw [hb1] at J
  have HBT1 := Lib.hid hb1; clear hb1
  cases bb1
  rotate_left
  ·
    rw [if_pos rfl] at J
    go_wp2_with fail
    refine J.out.mono ?_
    rintro e w1 ⟨rfl, h4, o4⟩
    have hr1 := (o4.block B (Array.getElem?_eq_some_iff.1 HR0.out).1 (by omega)).trans HR0.out
    have HR1 := Lib.hid hr1
    have HO1 := Lib.hid (HO0.out.trans' o4 (fun q hq e => by exact e))
    clear hr1
    have H1 := Lib.hid h4; clear h4 o4 J
    have HS1 := Lib.hid (HS0.out.trans (if_pos HBT1.out))
    clear HS0
    clear HR0 HO0 H0
    have hsz2 : B < w1.heap.size := (Array.getElem?_eq_some_iff.1 HR1.out).1
    obtain ⟨Y, hY⟩ : ∃ Y, w1.heap.size = Y := ⟨_, rfl⟩
    obtain ⟨w2, hw2⟩ : ∃ x, w1.alloc (.cells #[.int .u8 3, .string ⟨#[]⟩, .string ⟨#[]⟩, .string ⟨#[]⟩, .slice none 0 0, .slice none 0 0, .slice none 0 0] 51) = x := ⟨_, rfl⟩
    have hy2 : w2.heap[Y]? = some (.cells #[.int .u8 3, .string ⟨#[]⟩, .string ⟨#[]⟩, .string ⟨#[]⟩, .slice none 0 0, .slice none 0 0, .slice none 0 0] 51 (0, 0)) := by rw [← hw2, ← hY]; exact heap_new _ _
    have hr2 : w2.heap[B]? = some (.cells #[.int .u8 0, .string ⟨#[]⟩, .string ⟨#[]⟩, .string ⟨#[]⟩, .slice none 0 0, .slice none 0 0, .slice none 0 0] 51 (0, 0)) := by rw [← hw2]; exact heap_old HR1.out _
    have oa2 : Only (fun _ => False) w1 w2 := by rw [← hw2]; exact (Only.refl _ _).alloc _
    rw [hY] at hsz2
    have HY2 := Lib.hid hy2; have HR2 := Lib.hid hr2; have H2 := Lib.hid (H1.out.still oa2); have HO2 := Lib.hid (HO1.out.trans' oa2 (fun q _ e => e.elim)); have HW2 := Lib.hid hw2; have HYY := Lib.hid hY; have HS2 := HS1
    clear hy2 hr2 hw2 hY oa2 HR1 H1 HO1 HS1
    go_upto_region 3 with (fail)
    rw [HYY.out, HW2.out]
    clear HYY HW2
    have J := Lib.hid (take_any b all r.tail dp wOn w2 H2.out)
    unfold tookP at J
    obtain ⟨bb3, hb3⟩ : ∃ x, isT wOn r.tail = x := ⟨_, rfl⟩
    rw [hb3] at J
    have HBT3 := Lib.hid hb3; clear hb3
    cases bb3
    rotate_left
    ·
      rw [if_pos rfl] at J
      go_wp2_with fail
      refine J.out.mono ?_
      rintro e w3 ⟨rfl, h4, o4⟩
      have hr3 := (o4.block B (Array.getElem?_eq_some_iff.1 HR2.out).1 (by omega)).trans HR2.out
      have HR3 := Lib.hid hr3
      have hy3 := (o4.block Y (Array.getElem?_eq_some_iff.1 HY2.out).1 (by omega)).trans HY2.out
      have HY3 := Lib.hid hy3
      have HO3 := Lib.hid (HO2.out.trans' o4 (fun q hq e => by exact e))
      clear hr3 hy3
      have H3 := Lib.hid h4; clear h4 o4 J
      have HS3 := Lib.hid (HS2.out.trans (if_pos HBT3.out))
      clear HS2
      clear HR2 HO2 H2 HY2
      have J := Lib.hid (name_any b all (r.tail.tail) dp w3 H3.out)
      cases hq : nameP (r.tail.tail) with
      | bad a c =>
        rw [hq] at J
        have HE := Lib.hid (HS3.out.trans (bind_bad hq)); clear hq
        go_wp2_with fail
        refine J.out.mono ?_
        rintro e wz ⟨rfl, ⟨r'', dp', h1, h2, h3, h4⟩, h5⟩
        exact ⟨rfl, FB.out _ _ _ _ _ HE.out h1 h2 h3 h4 (HO3.out.trans h5)⟩
      | ok s r1 =>
        rw [hq] at J
        have HS4 := Lib.hid (HS3.out.trans (bind_ok hq)); clear hq HS3
        go_wp2_with fail
        refine J.out.mono ?_
        rintro e w4 ⟨v, rfl, hv, h4, o4⟩
        have hv : v = .string ⟨s.toArray⟩ := hv
        subst hv
        have hr4 := (o4.block B (Array.getElem?_eq_some_iff.1 HR3.out).1 (by omega)).trans HR3.out
        have HR4 := Lib.hid hr4
        have hy4 := (o4.block Y (Array.getElem?_eq_some_iff.1 HY3.out).1 (by omega)).trans HY3.out
        have HY4 := Lib.hid hy4
        have HO4 := Lib.hid (HO3.out.trans' o4 (fun q hq e => by exact e))
        clear hr4 hy4
        have H4 := Lib.hid h4; clear h4 o4 J
        clear HR3 HO3 H3 HY3
        obtain ⟨y0, y1, y2, y3, y4, y5, y6, yz⟩ := boxN7 HY4.out
        go_upto_region 7 with (fail)
        clear y0 y1 y2 y3 y4 y5 y6 yz
        have hy5 := heap_set (o := 3) HY4.out (.string ⟨s.toArray⟩)
        have hy5 : (w4.setCell ⟨Y, 3, none⟩ (.string ⟨s.toArray⟩)).heap[Y]? = some (.cells #[.int .u8 3, .string ⟨#[]⟩, .string ⟨#[]⟩, .string ⟨s.toArray⟩, .slice none 0 0, .slice none 0 0, .slice none 0 0] 51 (0, 0)) := by simpa using hy5
        have os5 : Only (fun k => k = Y) w4 (w4.setCell ⟨Y, 3, none⟩ (.string ⟨s.toArray⟩)) := (Only.refl (fun k => k = Y) _).setCell (p := ⟨Y, 3, none⟩) (.inl rfl) _
        obtain ⟨w5, hw5⟩ : ∃ x, w4.setCell ⟨Y, 3, none⟩ (.string ⟨s.toArray⟩) = x := ⟨_, rfl⟩
        rw [hw5] at hy5 os5
        rw [hw5]
        clear hw5
        have HY5 := Lib.hid hy5
        have H5 := Lib.hid (H4.out.only os5 (fun k hk e => by omega)); have HS5 := HS4
        have hr5 := (os5.block B (Array.getElem?_eq_some_iff.1 HR4.out).1 (by omega)).trans HR4.out
        have HR5 := Lib.hid hr5
        have HO5 := Lib.hid (HO4.out.trans' os5 (fun q hq e => by have e : q = Y := e; have := HWB.out; omega))
        clear hr5
        clear hy5 os5 HS4
        clear HR4 HO4 H4 HY4
        have J := Lib.hid (KCD.out r1 w5 H5.out)
        cases hq : dirsP d (r1.length + 1) [] r1 with
        | bad a c =>
          rw [hq] at J
          have HE := Lib.hid (HS5.out.trans (bind_bad hq)); clear hq
          go_wp2_with fail
          refine J.out.mono ?_
          rintro e wz ⟨rfl, ⟨r'', dp', h1, h2, h3, h4⟩, h5⟩
          exact ⟨rfl, FB.out _ _ _ _ _ HE.out h1 h2 h3 h4 (HO5.out.trans h5)⟩
        | ok ds r2 =>
          rw [hq] at J
          have HS6 := Lib.hid (HS5.out.trans (bind_ok hq)); clear hq HS5
          go_wp2_with fail
          refine J.out.mono ?_
          rintro e w6 ⟨v, rfl, hv, h4, o4⟩
          have hsz6 : B ≤ w5.heap.size := by have := (Array.getElem?_eq_some_iff.1 HR5.out).1; omega
          have hsy6 : Y < w5.heap.size := (Array.getElem?_eq_some_iff.1 HY5.out).1
          have hv := CellAt.weaken (G' := fun q => Y < q) (fun q _ h => by have h : w5.heap.size ≤ q := h; show Y < q; omega) _ _ hv
          obtain ⟨ar6, cr6, er6⟩ := row_form hv
          rw [List.length_map] at er6
          subst er6
          have hv : CellAt w6 (fun q => Y < q) (.row 2 (ds.map dirC)) (.slice ar6 ds.length cr6) := hv
          have HP6 := Lib.hid hv; clear hv
          have hr6 := (o4.block B (Array.getElem?_eq_some_iff.1 HR5.out).1 (by omega)).trans HR5.out
          have HR6 := Lib.hid hr6
          have hy6 := (o4.block Y (Array.getElem?_eq_some_iff.1 HY5.out).1 (by omega)).trans HY5.out
          have HY6 := Lib.hid hy6
          have HO6 := Lib.hid (HO5.out.trans' o4 (fun q hq e => by exact e))
          clear hr6 hy6
          have H6 := Lib.hid h4; clear h4 o4 J
          clear HR5 HO5 H5 HY5
          obtain ⟨y0, y1, y2, y3, y4, y5, y6, yz⟩ := boxN7 HY6.out
          go_upto_region 8 with (fail)
          clear y0 y1 y2 y3 y4 y5 y6 yz
          have hy7 := heap_set (o := 5) HY6.out (.slice ar6 ds.length cr6)
          have hy7 : (w6.setCell ⟨Y, 5, none⟩ (.slice ar6 ds.length cr6)).heap[Y]? = some (.cells #[.int .u8 3, .string ⟨#[]⟩, .string ⟨#[]⟩, .string ⟨s.toArray⟩, .slice none 0 0, .slice ar6 ds.length cr6, .slice none 0 0] 51 (0, 0)) := by simpa using hy7
          have os7 : Only (fun k => k = Y) w6 (w6.setCell ⟨Y, 5, none⟩ (.slice ar6 ds.length cr6)) := (Only.refl (fun k => k = Y) _).setCell (p := ⟨Y, 5, none⟩) (.inl rfl) _
          obtain ⟨w7, hw7⟩ : ∃ x, w6.setCell ⟨Y, 5, none⟩ (.slice ar6 ds.length cr6) = x := ⟨_, rfl⟩
          rw [hw7] at hy7 os7
          rw [hw7]
          clear hw7
          have HY7 := Lib.hid hy7
          have H7 := Lib.hid (H6.out.only os7 (fun k hk e => by omega)); have HS7 := HS6
          have HF7_5 := Lib.hid (CellAt.only os7 (fun k hk e => by omega) _ _ HP6.out)
          have hr7 := (os7.block B (Array.getElem?_eq_some_iff.1 HR6.out).1 (by omega)).trans HR6.out
          have HR7 := Lib.hid hr7
          have HO7 := Lib.hid (HO6.out.trans' os7 (fun q hq e => by have e : q = Y := e; have := HWB.out; omega))
          clear hr7
          clear HP6
          clear hy7 os7 HS6
          clear HR6 HO6 H6 HY6
          obtain ⟨y0, y1, y2, y3, y4, y5, y6, yz⟩ := boxN7 HY7.out
          go_upto_region 9 with (fail)
          clear y0 y1 y2 y3 y4 y5 y6 yz
          have J := Lib.hid (KCS.out r2 w7 H7.out)
          cases hq : setP d r2 with
          | bad a c =>
            rw [hq] at J
            have HE := Lib.hid (HS7.out.trans (bind_bad hq)); clear hq
            go_wp2_with fail
            refine J.out.mono ?_
            rintro e wz ⟨rfl, ⟨r'', dp', h1, h2, h3, h4⟩, h5⟩
            exact ⟨rfl, FB.out _ _ _ _ _ HE.out h1 h2 h3 h4 (HO7.out.trans h5)⟩
          | ok sub r3 =>
            rw [hq] at J
            have HS8 := Lib.hid (HS7.out.trans (bind_ok hq)); clear hq HS7
            go_wp2_with fail
            refine J.out.mono ?_
            rintro e w8 ⟨v, rfl, hv, h4, o4⟩
            have hsz8 : B ≤ w7.heap.size := by have := (Array.getElem?_eq_some_iff.1 HR7.out).1; omega
            have hsy8 : Y < w7.heap.size := (Array.getElem?_eq_some_iff.1 HY7.out).1
            have hv := CellAt.weaken (G' := fun q => Y < q) (fun q _ h => by have h : w7.heap.size ≤ q := h; show Y < q; omega) _ _ hv
            obtain ⟨ar8, cr8, er8⟩ := row_form hv
            rw [List.length_map] at er8
            subst er8
            have hv : CellAt w8 (fun q => Y < q) (.row 7 (sub.map selC)) (.slice ar8 sub.length cr8) := hv
            have HP8 := Lib.hid hv; clear hv
            have hr8 := (o4.block B (Array.getElem?_eq_some_iff.1 HR7.out).1 (by omega)).trans HR7.out
            have HR8 := Lib.hid hr8
            have hy8 := (o4.block Y (Array.getElem?_eq_some_iff.1 HY7.out).1 (by omega)).trans HY7.out
            have HY8 := Lib.hid hy8
            have HF8_5 := Lib.hid (CellAt.only o4 (fun k hk e => by omega) _ _ HF7_5.out)
            have HO8 := Lib.hid (HO7.out.trans' o4 (fun q hq e => by exact e))
            clear hr8 hy8
            have H8 := Lib.hid h4; clear h4 o4 J
            clear HR7 HO7 H7 HY7 HF7_5
            obtain ⟨y0, y1, y2, y3, y4, y5, y6, yz⟩ := boxN7 HY8.out
            go_upto_region 10 with (fail)
            clear y0 y1 y2 y3 y4 y5 y6 yz
            have hy9 := heap_set (o := 6) HY8.out (.slice ar8 sub.length cr8)
            have hy9 : (w8.setCell ⟨Y, 6, none⟩ (.slice ar8 sub.length cr8)).heap[Y]? = some (.cells #[.int .u8 3, .string ⟨#[]⟩, .string ⟨#[]⟩, .string ⟨s.toArray⟩, .slice none 0 0, .slice ar6 ds.length cr6, .slice ar8 sub.length cr8] 51 (0, 0)) := by simpa using hy9
            have os9 : Only (fun k => k = Y) w8 (w8.setCell ⟨Y, 6, none⟩ (.slice ar8 sub.length cr8)) := (Only.refl (fun k => k = Y) _).setCell (p := ⟨Y, 6, none⟩) (.inl rfl) _
            obtain ⟨w9, hw9⟩ : ∃ x, w8.setCell ⟨Y, 6, none⟩ (.slice ar8 sub.length cr8) = x := ⟨_, rfl⟩
            rw [hw9] at hy9 os9
            rw [hw9]
            clear hw9
            have HY9 := Lib.hid hy9
            have H9 := Lib.hid (H8.out.only os9 (fun k hk e => by omega)); have HS9 := HS8
            have HF9_6 := Lib.hid (CellAt.only os9 (fun k hk e => by omega) _ _ HP8.out)
            have hr9 := (os9.block B (Array.getElem?_eq_some_iff.1 HR8.out).1 (by omega)).trans HR8.out
            have HR9 := Lib.hid hr9
            have HF9_5 := Lib.hid (CellAt.only os9 (fun k hk e => by omega) _ _ HF8_5.out)
            have HO9 := Lib.hid (HO8.out.trans' os9 (fun q hq e => by have e : q = Y := e; have := HWB.out; omega))
            clear hr9
            clear HP8
            clear hy9 os9 HS8
            clear HR8 HO8 H8 HY8 HF8_5
            obtain ⟨y0, y1, y2, y3, y4, y5, y6, yz⟩ := boxN7 HY9.out
            go_wp2_with ((refine wpList_store_box (o := ⟨none, _, _, _, _, _⟩) rfl 51 (.tmp 2) (.tmp 28) (by rfl) B [.int .u8 0, .string ⟨#[]⟩, .string ⟨#[]⟩, .string ⟨#[]⟩, .slice none 0 0, .slice none 0 0, .slice none 0 0] [.int .u8 3, .string ⟨#[]⟩, .string ⟨#[]⟩, .string ⟨s.toArray⟩, .slice none 0 0, .slice ar6 ds.length cr6, .slice ar8 sub.length cr8] (by rfl) (by rfl) HR9.out (by rfl) (by kernel_rfl) (by intro u hu; simp at hu; rcases hu with rfl | rfl | rfl | rfl | rfl | rfl | rfl <;> rfl) ?_; intro w9 k1 k2))
            clear y0 y1 y2 y3 y4 y5 y6 yz
            obtain ⟨y0, y1, y2, y3, y4, y5, y6, -⟩ := boxN7 k1
            have hf5 := CellAt.weaken (G' := fun q => B ≤ q) (fun q _ h => by have h : Y < q := h; show B ≤ q; omega) _ _ (CellAt.only k2 (fun k hk e => by omega) _ _ HF9_5.out)
            have hf6 := CellAt.weaken (G' := fun q => B ≤ q) (fun q _ h => by have h : Y < q := h; show B ≤ q; omega) _ _ (CellAt.only k2 (fun k hk e => by omega) _ _ HF9_6.out)
            exact bodyPost_ret (v := .agg #[.int .u8 3, .string ⟨#[]⟩, .string ⟨#[]⟩, .string ⟨s.toArray⟩, .slice none 0 0, .slice ar6 ds.length cr6, .slice ar8 sub.length cr8]) (by simp [results, Tryd.results49, go_sem, y0, y1, y2, y3, y4, y5, y6]) rfl (FO.out (.mk 3 [] [] s [] ds sub) _ w9 _ HS9.out ⟨_, rfl, by rw [selC, selCs_map]; exact CellsAt.lit rfl (CellsAt.lit rfl (CellsAt.lit rfl (CellsAt.lit rfl (CellsAt.cons (CellAt.nilRow _ _ _) (CellsAt.cons hf5 (CellsAt.cons hf6 (CellsAt.nil _ _)))))))⟩ (H9.out.only k2 (fun k hk e => by omega)) (HO9.out.trans' k2 (fun q hq e => by have := HWB.out; omega)))
    ·
      rw [if_neg (by decide)] at J
      go_wp2_with fail
      refine J.out.mono ?_
      rintro e w3 ⟨rfl, h4, o4⟩
      have hr3 := (o4.block B (Array.getElem?_eq_some_iff.1 HR2.out).1 (by omega)).trans HR2.out
      have HR3 := Lib.hid hr3
      have hy3 := (o4.block Y (Array.getElem?_eq_some_iff.1 HY2.out).1 (by omega)).trans HY2.out
      have HY3 := Lib.hid hy3
      have HO3 := Lib.hid (HO2.out.trans' o4 (fun q hq e => by exact e))
      clear hr3 hy3
      have H3 := Lib.hid h4; clear h4 o4 J
      have HS3 := Lib.hid (HS2.out.trans (if_neg (by rw [HBT3.out]; decide)))
      clear HS2
      clear HR2 HO2 H2 HY2
      have J := Lib.hid (kind_any b all r.tail dp 1 w3 H3.out (by decide))
      obtain ⟨bb4, hb4⟩ : ∃ x, isK 1 r.tail = x := ⟨_, rfl⟩
      rw [hb4] at J
      have HBT4 := Lib.hid hb4; clear hb4
      cases bb4
      rotate_left
      ·
        go_wp2_with fail
        refine J.out.mono ?_
        rintro e w4 ⟨rfl, o4⟩
        have hr4 := (o4.block B (Array.getElem?_eq_some_iff.1 HR3.out).1 (fun h => h)).trans HR3.out
        have HR4 := Lib.hid hr4
        have hy4 := (o4.block Y (Array.getElem?_eq_some_iff.1 HY3.out).1 (fun h => h)).trans HY3.out
        have HY4 := Lib.hid hy4
        have HO4 := Lib.hid (HO3.out.trans' o4 (fun q hq e => by exact e.elim))
        clear hr4 hy4
        have H4 := Lib.hid (H3.out.still o4); clear o4 J
        have HS4 := Lib.hid (HS3.out.trans (if_pos HBT4.out))
        clear HS3
        clear HR3 HO3 H3 HY3
        have J := Lib.hid (name_any b all (r.tail) dp w4 H4.out)
        cases hq : nameP (r.tail) with
        | bad a c =>
          rw [hq] at J
          have HE := Lib.hid (HS4.out.trans (bind_bad hq)); clear hq
          go_wp2_with fail
          refine J.out.mono ?_
          rintro e wz ⟨rfl, ⟨r'', dp', h1, h2, h3, h4⟩, h5⟩
          exact ⟨rfl, FB.out _ _ _ _ _ HE.out h1 h2 h3 h4 (HO4.out.trans h5)⟩
        | ok s r1 =>
          rw [hq] at J
          have HS5 := Lib.hid (HS4.out.trans (bind_ok hq)); clear hq HS4
          go_wp2_with fail
          refine J.out.mono ?_
          rintro e w5 ⟨v, rfl, hv, h4, o4⟩
          have hv : v = .string ⟨s.toArray⟩ := hv
          subst hv
          have hr5 := (o4.block B (Array.getElem?_eq_some_iff.1 HR4.out).1 (by omega)).trans HR4.out
          have HR5 := Lib.hid hr5
          have hy5 := (o4.block Y (Array.getElem?_eq_some_iff.1 HY4.out).1 (by omega)).trans HY4.out
          have HY5 := Lib.hid hy5
          have HO5 := Lib.hid (HO4.out.trans' o4 (fun q hq e => by exact e))
          clear hr5 hy5
          have H5 := Lib.hid h4; clear h4 o4 J
          clear HR4 HO4 H4 HY4
          obtain ⟨y0, y1, y2, y3, y4, y5, y6, yz⟩ := boxN7 HY5.out
          go_upto_region 7 with (fail)
          clear y0 y1 y2 y3 y4 y5 y6 yz
          have hy6 := heap_set (o := 0) HY5.out (.int .u8 2)
          have hy6 : (w5.setCell ⟨Y, 0, none⟩ (.int .u8 2)).heap[Y]? = some (.cells #[.int .u8 2, .string ⟨#[]⟩, .string ⟨#[]⟩, .string ⟨#[]⟩, .slice none 0 0, .slice none 0 0, .slice none 0 0] 51 (0, 0)) := by simpa using hy6
          have os6 : Only (fun k => k = Y) w5 (w5.setCell ⟨Y, 0, none⟩ (.int .u8 2)) := (Only.refl (fun k => k = Y) _).setCell (p := ⟨Y, 0, none⟩) (.inl rfl) _
          obtain ⟨w6, hw6⟩ : ∃ x, w5.setCell ⟨Y, 0, none⟩ (.int .u8 2) = x := ⟨_, rfl⟩
          rw [hw6] at hy6 os6
          rw [hw6]
          clear hw6
          have HY6 := Lib.hid hy6
          have H6 := Lib.hid (H5.out.only os6 (fun k hk e => by omega)); have HS6 := HS5
          have hr6 := (os6.block B (Array.getElem?_eq_some_iff.1 HR5.out).1 (by omega)).trans HR5.out
          have HR6 := Lib.hid hr6
          have HO6 := Lib.hid (HO5.out.trans' os6 (fun q hq e => by have e : q = Y := e; have := HWB.out; omega))
          clear hr6
          clear hy6 os6 HS5
          clear HR5 HO5 H5 HY5
          have hy7 := heap_set (o := 2) HY6.out (.string ⟨s.toArray⟩)
          have hy7 : (w6.setCell ⟨Y, 2, none⟩ (.string ⟨s.toArray⟩)).heap[Y]? = some (.cells #[.int .u8 2, .string ⟨#[]⟩, .string ⟨s.toArray⟩, .string ⟨#[]⟩, .slice none 0 0, .slice none 0 0, .slice none 0 0] 51 (0, 0)) := by simpa using hy7
          have os7 : Only (fun k => k = Y) w6 (w6.setCell ⟨Y, 2, none⟩ (.string ⟨s.toArray⟩)) := (Only.refl (fun k => k = Y) _).setCell (p := ⟨Y, 2, none⟩) (.inl rfl) _
          obtain ⟨w7, hw7⟩ : ∃ x, w6.setCell ⟨Y, 2, none⟩ (.string ⟨s.toArray⟩) = x := ⟨_, rfl⟩
          rw [hw7] at hy7 os7
          rw [hw7]
          clear hw7
          have HY7 := Lib.hid hy7
          have H7 := Lib.hid (H6.out.only os7 (fun k hk e => by omega)); have HS7 := HS6
          have hr7 := (os7.block B (Array.getElem?_eq_some_iff.1 HR6.out).1 (by omega)).trans HR6.out
          have HR7 := Lib.hid hr7
          have HO7 := Lib.hid (HO6.out.trans' os7 (fun q hq e => by have e : q = Y := e; have := HWB.out; omega))
          clear hr7
          clear hy7 os7 HS6
          clear HR6 HO6 H6 HY6
          have J := Lib.hid (KCD.out r1 w7 H7.out)
          cases hq : dirsP d (r1.length + 1) [] r1 with
          | bad a c =>
            rw [hq] at J
            have HE := Lib.hid (HS7.out.trans (bind_bad hq)); clear hq
            go_wp2_with fail
            refine J.out.mono ?_
            rintro e wz ⟨rfl, ⟨r'', dp', h1, h2, h3, h4⟩, h5⟩
            exact ⟨rfl, FB.out _ _ _ _ _ HE.out h1 h2 h3 h4 (HO7.out.trans h5)⟩
          | ok ds r2 =>
            rw [hq] at J
            have HS8 := Lib.hid (HS7.out.trans (bind_ok hq)); clear hq HS7
            go_wp2_with fail
            refine J.out.mono ?_
            rintro e w8 ⟨v, rfl, hv, h4, o4⟩
            have hsz8 : B ≤ w7.heap.size := by have := (Array.getElem?_eq_some_iff.1 HR7.out).1; omega
            have hsy8 : Y < w7.heap.size := (Array.getElem?_eq_some_iff.1 HY7.out).1
            have hv := CellAt.weaken (G' := fun q => Y < q) (fun q _ h => by have h : w7.heap.size ≤ q := h; show Y < q; omega) _ _ hv
            obtain ⟨ar8, cr8, er8⟩ := row_form hv
            rw [List.length_map] at er8
            subst er8
            have hv : CellAt w8 (fun q => Y < q) (.row 2 (ds.map dirC)) (.slice ar8 ds.length cr8) := hv
            have HP8 := Lib.hid hv; clear hv
            have hr8 := (o4.block B (Array.getElem?_eq_some_iff.1 HR7.out).1 (by omega)).trans HR7.out
            have HR8 := Lib.hid hr8
            have hy8 := (o4.block Y (Array.getElem?_eq_some_iff.1 HY7.out).1 (by omega)).trans HY7.out
            have HY8 := Lib.hid hy8
            have HO8 := Lib.hid (HO7.out.trans' o4 (fun q hq e => by exact e))
            clear hr8 hy8
            have H8 := Lib.hid h4; clear h4 o4 J
            clear HR7 HO7 H7 HY7
            obtain ⟨y0, y1, y2, y3, y4, y5, y6, yz⟩ := boxN7 HY8.out
            go_upto_region 8 with (fail)
            clear y0 y1 y2 y3 y4 y5 y6 yz
            have hy9 := heap_set (o := 5) HY8.out (.slice ar8 ds.length cr8)
            have hy9 : (w8.setCell ⟨Y, 5, none⟩ (.slice ar8 ds.length cr8)).heap[Y]? = some (.cells #[.int .u8 2, .string ⟨#[]⟩, .string ⟨s.toArray⟩, .string ⟨#[]⟩, .slice none 0 0, .slice ar8 ds.length cr8, .slice none 0 0] 51 (0, 0)) := by simpa using hy9
            have os9 : Only (fun k => k = Y) w8 (w8.setCell ⟨Y, 5, none⟩ (.slice ar8 ds.length cr8)) := (Only.refl (fun k => k = Y) _).setCell (p := ⟨Y, 5, none⟩) (.inl rfl) _
            obtain ⟨w9, hw9⟩ : ∃ x, w8.setCell ⟨Y, 5, none⟩ (.slice ar8 ds.length cr8) = x := ⟨_, rfl⟩
            rw [hw9] at hy9 os9
            rw [hw9]
            clear hw9
            have HY9 := Lib.hid hy9
            have H9 := Lib.hid (H8.out.only os9 (fun k hk e => by omega)); have HS9 := HS8
            have HF9_5 := Lib.hid (CellAt.only os9 (fun k hk e => by omega) _ _ HP8.out)
            have hr9 := (os9.block B (Array.getElem?_eq_some_iff.1 HR8.out).1 (by omega)).trans HR8.out
            have HR9 := Lib.hid hr9
            have HO9 := Lib.hid (HO8.out.trans' os9 (fun q hq e => by have e : q = Y := e; have := HWB.out; omega))
            clear hr9
            clear HP8
            clear hy9 os9 HS8
            clear HR8 HO8 H8 HY8
            obtain ⟨y0, y1, y2, y3, y4, y5, y6, yz⟩ := boxN7 HY9.out
            go_upto_region 10 with (fail)
            clear y0 y1 y2 y3 y4 y5 y6 yz
            obtain ⟨y0, y1, y2, y3, y4, y5, y6, yz⟩ := boxN7 HY9.out
            go_wp2_with ((refine wpList_store_box (o := ⟨none, _, _, _, _, _⟩) rfl 51 (.tmp 2) (.tmp 28) (by rfl) B [.int .u8 0, .string ⟨#[]⟩, .string ⟨#[]⟩, .string ⟨#[]⟩, .slice none 0 0, .slice none 0 0, .slice none 0 0] [.int .u8 2, .string ⟨#[]⟩, .string ⟨s.toArray⟩, .string ⟨#[]⟩, .slice none 0 0, .slice ar8 ds.length cr8, .slice none 0 0] (by rfl) (by rfl) HR9.out (by rfl) (by kernel_rfl) (by intro u hu; simp at hu; rcases hu with rfl | rfl | rfl | rfl | rfl | rfl | rfl <;> rfl) ?_; intro w9 k1 k2))
            clear y0 y1 y2 y3 y4 y5 y6 yz
            obtain ⟨y0, y1, y2, y3, y4, y5, y6, -⟩ := boxN7 k1
            have hf5 := CellAt.weaken (G' := fun q => B ≤ q) (fun q _ h => by have h : Y < q := h; show B ≤ q; omega) _ _ (CellAt.only k2 (fun k hk e => by omega) _ _ HF9_5.out)
            exact bodyPost_ret (v := .agg #[.int .u8 2, .string ⟨#[]⟩, .string ⟨s.toArray⟩, .string ⟨#[]⟩, .slice none 0 0, .slice ar8 ds.length cr8, .slice none 0 0]) (by simp [results, Tryd.results49, go_sem, y0, y1, y2, y3, y4, y5, y6]) rfl (FO.out (.mk 2 [] s [] [] ds []) _ w9 _ HS9.out ⟨_, rfl, by rw [selC, selCs]; exact CellsAt.lit rfl (CellsAt.lit rfl (CellsAt.lit rfl (CellsAt.lit rfl (CellsAt.cons (CellAt.nilRow _ _ _) (CellsAt.cons hf5 (CellsAt.cons (CellAt.nilRow _ _ _) (CellsAt.nil _ _)))))))⟩ (H9.out.only k2 (fun k hk e => by omega)) (HO9.out.trans' k2 (fun q hq e => by have := HWB.out; omega)))
      ·
        go_wp2_with fail
        refine J.out.mono ?_
        rintro e w4 ⟨rfl, o4⟩
        have hr4 := (o4.block B (Array.getElem?_eq_some_iff.1 HR3.out).1 (fun h => h)).trans HR3.out
        have HR4 := Lib.hid hr4
        have hy4 := (o4.block Y (Array.getElem?_eq_some_iff.1 HY3.out).1 (fun h => h)).trans HY3.out
        have HY4 := Lib.hid hy4
        have HO4 := Lib.hid (HO3.out.trans' o4 (fun q hq e => by exact e.elim))
        clear hr4 hy4
        have H4 := Lib.hid (H3.out.still o4); clear o4 J
        have HS4 := Lib.hid (HS3.out.trans (if_neg (by rw [HBT4.out]; decide)))
        clear HS3
        clear HR3 HO3 H3 HY3
        have J := Lib.hid (KCD.out (r.tail) w4 H4.out)
        cases hq : dirsP d (r.tail.length + 1) [] (r.tail) with
        | bad a c =>
          rw [hq] at J
          have HE := Lib.hid (HS4.out.trans (bind_bad hq)); clear hq
          go_wp2_with fail
          refine J.out.mono ?_
          rintro e wz ⟨rfl, ⟨r'', dp', h1, h2, h3, h4⟩, h5⟩
          exact ⟨rfl, FB.out _ _ _ _ _ HE.out h1 h2 h3 h4 (HO4.out.trans h5)⟩
        | ok ds r2 =>
          rw [hq] at J
          have HS5 := Lib.hid (HS4.out.trans (bind_ok hq)); clear hq HS4
          go_wp2_with fail
          refine J.out.mono ?_
          rintro e w5 ⟨v, rfl, hv, h4, o4⟩
          have hsz5 : B ≤ w4.heap.size := by have := (Array.getElem?_eq_some_iff.1 HR4.out).1; omega
          have hsy5 : Y < w4.heap.size := (Array.getElem?_eq_some_iff.1 HY4.out).1
          have hv := CellAt.weaken (G' := fun q => Y < q) (fun q _ h => by have h : w4.heap.size ≤ q := h; show Y < q; omega) _ _ hv
          obtain ⟨ar5, cr5, er5⟩ := row_form hv
          rw [List.length_map] at er5
          subst er5
          have hv : CellAt w5 (fun q => Y < q) (.row 2 (ds.map dirC)) (.slice ar5 ds.length cr5) := hv
          have HP5 := Lib.hid hv; clear hv
          have hr5 := (o4.block B (Array.getElem?_eq_some_iff.1 HR4.out).1 (by omega)).trans HR4.out
          have HR5 := Lib.hid hr5
          have hy5 := (o4.block Y (Array.getElem?_eq_some_iff.1 HY4.out).1 (by omega)).trans HY4.out
          have HY5 := Lib.hid hy5
          have HO5 := Lib.hid (HO4.out.trans' o4 (fun q hq e => by exact e))
          clear hr5 hy5
          have H5 := Lib.hid h4; clear h4 o4 J
          clear HR4 HO4 H4 HY4
          obtain ⟨y0, y1, y2, y3, y4, y5, y6, yz⟩ := boxN7 HY5.out
          go_upto_region 8 with (fail)
          clear y0 y1 y2 y3 y4 y5 y6 yz
          have hy6 := heap_set (o := 5) HY5.out (.slice ar5 ds.length cr5)
          have hy6 : (w5.setCell ⟨Y, 5, none⟩ (.slice ar5 ds.length cr5)).heap[Y]? = some (.cells #[.int .u8 3, .string ⟨#[]⟩, .string ⟨#[]⟩, .string ⟨#[]⟩, .slice none 0 0, .slice ar5 ds.length cr5, .slice none 0 0] 51 (0, 0)) := by simpa using hy6
          have os6 : Only (fun k => k = Y) w5 (w5.setCell ⟨Y, 5, none⟩ (.slice ar5 ds.length cr5)) := (Only.refl (fun k => k = Y) _).setCell (p := ⟨Y, 5, none⟩) (.inl rfl) _
          obtain ⟨w6, hw6⟩ : ∃ x, w5.setCell ⟨Y, 5, none⟩ (.slice ar5 ds.length cr5) = x := ⟨_, rfl⟩
          rw [hw6] at hy6 os6
          rw [hw6]
          clear hw6
          have HY6 := Lib.hid hy6
          have H6 := Lib.hid (H5.out.only os6 (fun k hk e => by omega)); have HS6 := HS5
          have HF6_5 := Lib.hid (CellAt.only os6 (fun k hk e => by omega) _ _ HP5.out)
          have hr6 := (os6.block B (Array.getElem?_eq_some_iff.1 HR5.out).1 (by omega)).trans HR5.out
          have HR6 := Lib.hid hr6
          have HO6 := Lib.hid (HO5.out.trans' os6 (fun q hq e => by have e : q = Y := e; have := HWB.out; omega))
          clear hr6
          clear HP5
          clear hy6 os6 HS5
          clear HR5 HO5 H5 HY5
          obtain ⟨y0, y1, y2, y3, y4, y5, y6, yz⟩ := boxN7 HY6.out
          go_upto_region 9 with (fail)
          clear y0 y1 y2 y3 y4 y5 y6 yz
          have J := Lib.hid (KCS.out r2 w6 H6.out)
          cases hq : setP d r2 with
          | bad a c =>
            rw [hq] at J
            have HE := Lib.hid (HS6.out.trans (bind_bad hq)); clear hq
            go_wp2_with fail
            refine J.out.mono ?_
            rintro e wz ⟨rfl, ⟨r'', dp', h1, h2, h3, h4⟩, h5⟩
            exact ⟨rfl, FB.out _ _ _ _ _ HE.out h1 h2 h3 h4 (HO6.out.trans h5)⟩
          | ok sub r3 =>
            rw [hq] at J
            have HS7 := Lib.hid (HS6.out.trans (bind_ok hq)); clear hq HS6
            go_wp2_with fail
            refine J.out.mono ?_
            rintro e w7 ⟨v, rfl, hv, h4, o4⟩
            have hsz7 : B ≤ w6.heap.size := by have := (Array.getElem?_eq_some_iff.1 HR6.out).1; omega
            have hsy7 : Y < w6.heap.size := (Array.getElem?_eq_some_iff.1 HY6.out).1
            have hv := CellAt.weaken (G' := fun q => Y < q) (fun q _ h => by have h : w6.heap.size ≤ q := h; show Y < q; omega) _ _ hv
            obtain ⟨ar7, cr7, er7⟩ := row_form hv
            rw [List.length_map] at er7
            subst er7
            have hv : CellAt w7 (fun q => Y < q) (.row 7 (sub.map selC)) (.slice ar7 sub.length cr7) := hv
            have HP7 := Lib.hid hv; clear hv
            have hr7 := (o4.block B (Array.getElem?_eq_some_iff.1 HR6.out).1 (by omega)).trans HR6.out
            have HR7 := Lib.hid hr7
            have hy7 := (o4.block Y (Array.getElem?_eq_some_iff.1 HY6.out).1 (by omega)).trans HY6.out
            have HY7 := Lib.hid hy7
            have HF7_5 := Lib.hid (CellAt.only o4 (fun k hk e => by omega) _ _ HF6_5.out)
            have HO7 := Lib.hid (HO6.out.trans' o4 (fun q hq e => by exact e))
            clear hr7 hy7
            have H7 := Lib.hid h4; clear h4 o4 J
            clear HR6 HO6 H6 HY6 HF6_5
            obtain ⟨y0, y1, y2, y3, y4, y5, y6, yz⟩ := boxN7 HY7.out
            go_upto_region 10 with (fail)
            clear y0 y1 y2 y3 y4 y5 y6 yz
            have hy8 := heap_set (o := 6) HY7.out (.slice ar7 sub.length cr7)
            have hy8 : (w7.setCell ⟨Y, 6, none⟩ (.slice ar7 sub.length cr7)).heap[Y]? = some (.cells #[.int .u8 3, .string ⟨#[]⟩, .string ⟨#[]⟩, .string ⟨#[]⟩, .slice none 0 0, .slice ar5 ds.length cr5, .slice ar7 sub.length cr7] 51 (0, 0)) := by simpa using hy8
            have os8 : Only (fun k => k = Y) w7 (w7.setCell ⟨Y, 6, none⟩ (.slice ar7 sub.length cr7)) := (Only.refl (fun k => k = Y) _).setCell (p := ⟨Y, 6, none⟩) (.inl rfl) _
            obtain ⟨w8, hw8⟩ : ∃ x, w7.setCell ⟨Y, 6, none⟩ (.slice ar7 sub.length cr7) = x := ⟨_, rfl⟩
            rw [hw8] at hy8 os8
            rw [hw8]
            clear hw8
            have HY8 := Lib.hid hy8
            have H8 := Lib.hid (H7.out.only os8 (fun k hk e => by omega)); have HS8 := HS7
            have HF8_6 := Lib.hid (CellAt.only os8 (fun k hk e => by omega) _ _ HP7.out)
            have hr8 := (os8.block B (Array.getElem?_eq_some_iff.1 HR7.out).1 (by omega)).trans HR7.out
            have HR8 := Lib.hid hr8
            have HF8_5 := Lib.hid (CellAt.only os8 (fun k hk e => by omega) _ _ HF7_5.out)
            have HO8 := Lib.hid (HO7.out.trans' os8 (fun q hq e => by have e : q = Y := e; have := HWB.out; omega))
            clear hr8
            clear HP7
            clear hy8 os8 HS7
            clear HR7 HO7 H7 HY7 HF7_5
            obtain ⟨y0, y1, y2, y3, y4, y5, y6, yz⟩ := boxN7 HY8.out
            go_wp2_with ((refine wpList_store_box (o := ⟨none, _, _, _, _, _⟩) rfl 51 (.tmp 2) (.tmp 28) (by rfl) B [.int .u8 0, .string ⟨#[]⟩, .string ⟨#[]⟩, .string ⟨#[]⟩, .slice none 0 0, .slice none 0 0, .slice none 0 0] [.int .u8 3, .string ⟨#[]⟩, .string ⟨#[]⟩, .string ⟨#[]⟩, .slice none 0 0, .slice ar5 ds.length cr5, .slice ar7 sub.length cr7] (by rfl) (by rfl) HR8.out (by rfl) (by kernel_rfl) (by intro u hu; simp at hu; rcases hu with rfl | rfl | rfl | rfl | rfl | rfl | rfl <;> rfl) ?_; intro w9 k1 k2))
            clear y0 y1 y2 y3 y4 y5 y6 yz
            obtain ⟨y0, y1, y2, y3, y4, y5, y6, -⟩ := boxN7 k1
            have hf5 := CellAt.weaken (G' := fun q => B ≤ q) (fun q _ h => by have h : Y < q := h; show B ≤ q; omega) _ _ (CellAt.only k2 (fun k hk e => by omega) _ _ HF8_5.out)
            have hf6 := CellAt.weaken (G' := fun q => B ≤ q) (fun q _ h => by have h : Y < q := h; show B ≤ q; omega) _ _ (CellAt.only k2 (fun k hk e => by omega) _ _ HF8_6.out)
            exact bodyPost_ret (v := .agg #[.int .u8 3, .string ⟨#[]⟩, .string ⟨#[]⟩, .string ⟨#[]⟩, .slice none 0 0, .slice ar5 ds.length cr5, .slice ar7 sub.length cr7]) (by simp [results, Tryd.results49, go_sem, y0, y1, y2, y3, y4, y5, y6]) rfl (FO.out (.mk 3 [] [] [] [] ds sub) _ w9 _ HS8.out ⟨_, rfl, by rw [selC, selCs_map]; exact CellsAt.lit rfl (CellsAt.lit rfl (CellsAt.lit rfl (CellsAt.lit rfl (CellsAt.cons (CellAt.nilRow _ _ _) (CellsAt.cons hf5 (CellsAt.cons hf6 (CellsAt.nil _ _)))))))⟩ (H8.out.only k2 (fun k hk e => by omega)) (HO8.out.trans' k2 (fun q hq e => by have := HWB.out; omega)))
  ·
    rw [if_neg (by decide)] at J
    go_wp2_with fail
    refine J.out.mono ?_
    rintro e w1 ⟨rfl, h4, o4⟩
    have hr1 := (o4.block B (Array.getElem?_eq_some_iff.1 HR0.out).1 (by omega)).trans HR0.out
    have HR1 := Lib.hid hr1
    have HO1 := Lib.hid (HO0.out.trans' o4 (fun q hq e => by exact e))
    clear hr1
    have H1 := Lib.hid h4; clear h4 o4 J
    have HS1 := Lib.hid (HS0.out.trans (if_neg (by rw [HBT1.out]; decide)))
    clear HS0
    clear HR0 HO0 H0
    have J := Lib.hid (name_any b all r dp w1 H1.out)
    cases hq : nameP r with
    | bad a c =>
      rw [hq] at J
      have HE := Lib.hid (HS1.out.trans (bind_bad hq)); clear hq
      go_wp2_with fail
      refine J.out.mono ?_
      rintro e wz ⟨rfl, ⟨r'', dp', h1, h2, h3, h4⟩, h5⟩
      exact ⟨rfl, FB.out _ _ _ _ _ HE.out h1 h2 h3 h4 (HO1.out.trans h5)⟩
    | ok s r1 =>
      rw [hq] at J
      have HS2 := Lib.hid (HS1.out.trans (bind_ok hq)); clear hq HS1
      go_wp2_with fail
      refine J.out.mono ?_
      rintro e w2 ⟨v, rfl, hv, h4, o4⟩
      have hv : v = .string ⟨s.toArray⟩ := hv
      subst hv
      have hr2 := (o4.block B (Array.getElem?_eq_some_iff.1 HR1.out).1 (by omega)).trans HR1.out
      have HR2 := Lib.hid hr2
      have HO2 := Lib.hid (HO1.out.trans' o4 (fun q hq e => by exact e))
      clear hr2
      have H2 := Lib.hid h4; clear h4 o4 J
      clear HR1 HO1 H1
      have hsz3 : B < w2.heap.size := (Array.getElem?_eq_some_iff.1 HR2.out).1
      obtain ⟨Y, hY⟩ : ∃ Y, w2.heap.size = Y := ⟨_, rfl⟩
      obtain ⟨w3, hw3⟩ : ∃ x, w2.alloc (.cells #[.int .u8 1, .string ⟨#[]⟩, .string ⟨s.toArray⟩, .string ⟨#[]⟩, .slice none 0 0, .slice none 0 0, .slice none 0 0] 51) = x := ⟨_, rfl⟩
      have hy3 : w3.heap[Y]? = some (.cells #[.int .u8 1, .string ⟨#[]⟩, .string ⟨s.toArray⟩, .string ⟨#[]⟩, .slice none 0 0, .slice none 0 0, .slice none 0 0] 51 (0, 0)) := by rw [← hw3, ← hY]; exact heap_new _ _
      have hr3 : w3.heap[B]? = some (.cells #[.int .u8 0, .string ⟨#[]⟩, .string ⟨#[]⟩, .string ⟨#[]⟩, .slice none 0 0, .slice none 0 0, .slice none 0 0] 51 (0, 0)) := by rw [← hw3]; exact heap_old HR2.out _
      have oa3 : Only (fun _ => False) w2 w3 := by rw [← hw3]; exact (Only.refl _ _).alloc _
      rw [hY] at hsz3
      have HY3 := Lib.hid hy3; have HR3 := Lib.hid hr3; have H3 := Lib.hid (H2.out.still oa3); have HO3 := Lib.hid (HO2.out.trans' oa3 (fun q _ e => e.elim)); have HW3 := Lib.hid hw3; have HYY := Lib.hid hY; have HS3 := HS2
      clear hy3 hr3 hw3 hY oa3 HR2 H2 HO2 HS2
      go_upto_region 12 with (fail)
      rw [HYY.out, HW3.out]
      clear HYY HW3
      have J := Lib.hid (take_any b all r1 dp [58] w3 H3.out)
      unfold tookP at J
      obtain ⟨bb4, hb4⟩ : ∃ x, isT [58] r1 = x := ⟨_, rfl⟩
      rw [hb4] at J
      have HBT4 := Lib.hid hb4; clear hb4
      cases bb4
      rotate_left
      ·
        rw [if_pos rfl] at J
        go_wp2_with fail
        refine J.out.mono ?_
        rintro e w4 ⟨rfl, h4, o4⟩
        have hr4 := (o4.block B (Array.getElem?_eq_some_iff.1 HR3.out).1 (by omega)).trans HR3.out
        have HR4 := Lib.hid hr4
        have hy4 := (o4.block Y (Array.getElem?_eq_some_iff.1 HY3.out).1 (by omega)).trans HY3.out
        have HY4 := Lib.hid hy4
        have HO4 := Lib.hid (HO3.out.trans' o4 (fun q hq e => by exact e))
        clear hr4 hy4
        have H4 := Lib.hid h4; clear h4 o4 J
        have HS4 := HS3
        clear HS3
        clear HR3 HO3 H3 HY3
        have J : ∀ wx, Only (fun _ => False) w4 wx → Calls Tryd.prog 52 #[.pointer (some ⟨b, 0, none⟩)] wx (Ans wx b all dp strP (nameP r1.tail)) := fun wx o => name_any b all r1.tail dp wx (H4.out.still o)
        cases hq : nameP r1.tail with
        | bad a c =>
          rw [hq] at J
          have HE := Lib.hid (HS4.out.trans (bind_bad ((if_pos HBT4.out).trans (bind_bad hq)))); clear hq
          have J := Lib.hid J
          obtain ⟨y0, y1, y2, y3, y4, y5, y6, yz⟩ := boxN7 HY4.out
          go_upto_region 13 with (fail)
          go_region_dies
          all_goals (refine (J.out _ ((Only.refl _ w4).drew)).mono ?_; rintro e wz ⟨rfl, ⟨r'', dp', h1, h2, h3, h4⟩, h5⟩; exact ⟨rfl, FB.out _ _ _ _ _ HE.out h1 h2 h3 h4 (HO4.out.trans (((Only.refl _ w4).drew).trans h5))⟩)
        | ok s2 r2 =>
          rw [hq] at J
          have HS5 := Lib.hid (HS4.out.trans (bind_ok ((if_pos HBT4.out).trans (bind_ok hq)))); clear hq HS4
          have J := Lib.hid J
          have hY4 : Y < w4.heap.size := (Array.getElem?_eq_some_iff.1 HY4.out).1
          go_upto_region 13 with (fail)
          refine wp_region_stepsM2 7 (by kernel_rfl) rfl (by kernel_rfl) [some 34, some 35, some 36, some 37, some 38, none, some 39] rfl rfl 3 5 (fun q => q = b) (fun q => q = Y) [5, 6, 7] (by kernel_rfl) [2] (by kernel_rfl) [0, 1, 2, 3, 4] (fun _ => by kernel_rfl) (by decide) (by decide) (.inr ⟨by decide, by decide⟩) [(fun v _ => v = (.pointer (some ⟨Y, 2, none⟩))), (fun v _ => v = (.string ⟨s.toArray⟩)), (fun v _ => v = (.pointer (some ⟨b, 0, none⟩))), (fun v w1 => v = .string ⟨s2.toArray⟩ ∧ RdP w1 b all r2 dp), (fun v _ => v = (.pointer (some ⟨Y, 1, none⟩))), (fun v w1 => w1.heap[Y]? = some (.cells #[.int .u8 1, .string ⟨s.toArray⟩, .string ⟨s.toArray⟩, .string ⟨#[]⟩, .slice none 0 0, .slice none 0 0, .slice none 0 0] 51 (0, 0)) ∧ RdP w1 b all r2 dp), (fun v _ => v = (.pointer (some ⟨Y, 2, none⟩)))] rfl ⟨?_, ?_, ?_, ?_, ?_, ?_, ?_, trivial⟩ _ rfl ⟨?_, ?_, ?_, ?_, ?_, ?_, ?_, trivial⟩ ?_
          · exact Stable.is _ _
          · exact Stable.is _ _
          · exact Stable.is _ _
          · intro v w1 w2 h ho
            have ho : Only (fun q => q = Y) w1 w2 := ho
            exact (by obtain ⟨e1, e3⟩ := h; exact ⟨e1, e3.only ho (fun k hk e => by have e : k = Y := e; omega)⟩)
          · exact Stable.is _ _
          · intro v w1 w2 h ho
            have ho : Only (fun _ => False) w1 w2 := ho
            exact (by obtain ⟨e1, e3⟩ := h; exact ⟨(ho.block Y (Array.getElem?_eq_some_iff.1 e1).1 (fun h => h)).trans e1, e3.still ho⟩)
          · exact Stable.is _ _
          · intro x wx ox hN TT HTT
            have ox : Only (fun q => q = b) _ wx := ox
            clear hN
            unfold StepTo
            simp only [putAll, Act.put, List.setIfInBounds_toArray, List.set_cons_succ, List.set_cons_zero]
            go_wp2_with fail
            exact ⟨rfl, _, rfl, HTT.out _ _ (rfl) (Only.refl _ _)⟩
          · intro x wx ox hN TT HTT
            have ox : Only (fun q => q = b) _ wx := ox
            have r34 : x 0 = (.pointer (some ⟨Y, 2, none⟩)) := hN.1 rfl
            clear hN
            unfold StepTo
            simp only [putAll, Act.put, List.setIfInBounds_toArray, List.set_cons_succ, List.set_cons_zero, r34]
            clear r34
            have hbx := (ox.block _ hY4 (fun h => by have h : Y = b := h; omega)).trans HY4.out
            obtain ⟨y0, y1, y2, y3, y4, y5, y6, yz⟩ := boxN7 hbx
            clear hbx
            go_wp2_with fail
            exact ⟨rfl, _, rfl, HTT.out _ _ (rfl) (Only.refl _ _)⟩
          · intro x wx ox hN TT HTT
            have ox : Only (fun _ => False) _ wx := ox
            clear hN
            unfold StepTo
            simp only [putAll, Act.put, List.setIfInBounds_toArray, List.set_cons_succ, List.set_cons_zero]
            go_wp2_with fail
            exact ⟨rfl, _, rfl, HTT.out _ _ (rfl) (Only.refl _ _)⟩
          · intro x wx ox hN TT HTT
            have ox : Only (fun _ => False) _ wx := ox
            have r36 : x 2 = (.pointer (some ⟨b, 0, none⟩)) := hN.1 rfl
            clear hN
            unfold StepTo
            simp only [putAll, Act.put, List.setIfInBounds_toArray, List.set_cons_succ, List.set_cons_zero, r36]
            clear r36
            have ht := J.out wx (((Only.refl _ w4).drew).trans ox)
            have HT := Lib.hid ht; clear ht
            go_wp2_with fail
            refine HT.out.mono ?_
            rintro e w6 ⟨v6, rfl, hv6, h6, o6⟩
            have hv6 : v6 = .string ⟨s2.toArray⟩ := hv6
            subst hv6
            have H6 := Lib.hid h6; have O6 := Lib.hid o6; clear h6 o6
            go_wp2_with fail
            exact ⟨rfl, _, rfl, HTT.out _ _ (⟨rfl, H6.out⟩) (O6.out)⟩
          · intro x wx ox hN TT HTT
            have ox : Only (fun q => q = b) _ wx := ox
            have r34 : x 0 = (.pointer (some ⟨Y, 2, none⟩)) := hN.1 rfl
            have r35 : x 1 = (.string ⟨s.toArray⟩) := hN.2.1 rfl
            clear hN
            unfold StepTo
            simp only [putAll, Act.put, List.setIfInBounds_toArray, List.set_cons_succ, List.set_cons_zero, r34, r35]
            clear r34 r35
            go_wp2_with fail
            exact ⟨rfl, _, rfl, HTT.out _ _ (rfl) (Only.refl _ _)⟩
          · intro x wx ox hN TT HTT
            have ox : Only (fun q => q = b) _ wx := ox
            have r38 : x 4 = (.pointer (some ⟨Y, 1, none⟩)) := hN.1 rfl
            have r35 : x 1 = (.string ⟨s.toArray⟩) := hN.2.1 rfl
            have r37 : (fun (v : Value) (w1 : World) => v = .string ⟨s2.toArray⟩ ∧ RdP w1 b all r2 dp) (x 3) wx := hN.2.2.1 rfl
            have r34 : x 0 = (.pointer (some ⟨Y, 2, none⟩)) := hN.2.2.2.1 rfl
            clear hN
            unfold StepTo
            simp only [putAll, Act.put, List.setIfInBounds_toArray, List.set_cons_succ, List.set_cons_zero, r38, r35, r34]
            clear r38 r35 r34
            have hbx := (ox.block _ hY4 (fun h => by have h : Y = b := h; omega)).trans HY4.out
            obtain ⟨e1, e3⟩ := r37
            have hw1 := heap_set (o := 1) hbx (.string ⟨s.toArray⟩)
            have hw1 : (wx.setCell ⟨Y, 1, none⟩ (.string ⟨s.toArray⟩)).heap[Y]? = some (.cells #[.int .u8 1, .string ⟨s.toArray⟩, .string ⟨s.toArray⟩, .string ⟨#[]⟩, .slice none 0 0, .slice none 0 0, .slice none 0 0] 51 (0, 0)) := by simpa using hw1
            have ow1 : Only (fun k => k = Y) wx (wx.setCell ⟨Y, 1, none⟩ (.string ⟨s.toArray⟩)) := (Only.refl (fun k => k = Y) _).setCell (p := ⟨Y, 1, none⟩) (.inl rfl) _
            have HW1 := Lib.hid hw1; have OW1 := Lib.hid ow1; have H6 := Lib.hid e3; clear hw1 ow1 e3 e1
            obtain ⟨y0, y1, y2, y3, y4, y5, y6, yz⟩ := boxN7 hbx
            clear hbx
            go_wp2_with fail
            exact ⟨rfl, undef, rfl, HTT.out undef _ ⟨HW1.out, H6.out.only OW1.out (fun k hk e => by have e : k = Y := e; omega)⟩ OW1.out⟩
          · intro x wx ox hN TT HTT
            have ox : Only (fun q => (fun q => q = b) q ∨ (fun q => q = Y) q) _ wx := ox
            have r34 : x 0 = (.pointer (some ⟨Y, 2, none⟩)) := hN.1 rfl
            have r35 : x 1 = (.string ⟨s.toArray⟩) := hN.2.1 rfl
            have r36 : x 2 = (.pointer (some ⟨b, 0, none⟩)) := hN.2.2.1 rfl
            have r37 : (fun (v : Value) (w1 : World) => v = .string ⟨s2.toArray⟩ ∧ RdP w1 b all r2 dp) (x 3) wx := hN.2.2.2.1 rfl
            have r38 : x 4 = (.pointer (some ⟨Y, 1, none⟩)) := hN.2.2.2.2.1 rfl
            have rN : (fun (v : Value) (w1 : World) => w1.heap[Y]? = some (.cells #[.int .u8 1, .string ⟨s.toArray⟩, .string ⟨s.toArray⟩, .string ⟨#[]⟩, .slice none 0 0, .slice none 0 0, .slice none 0 0] 51 (0, 0)) ∧ RdP w1 b all r2 dp) (x 5) wx := hN.2.2.2.2.2.1 rfl
            clear hN
            unfold StepTo
            simp only [putAll, Act.put, List.setIfInBounds_toArray, List.set_cons_succ, List.set_cons_zero, r34, r35, r36, r38]
            clear r34 r35 r36 r38
            go_wp2_with fail
            exact ⟨rfl, _, rfl, HTT.out _ _ (rfl) (Only.refl _ _)⟩
          intro xz wxz oxz hN
          have oxz : Only (fun q => (fun q => q = b) q ∨ (fun q => q = Y) q) _ wxz := oxz
          have r34 : xz 0 = (.pointer (some ⟨Y, 2, none⟩)) := hN.1
          have r35 : xz 1 = (.string ⟨s.toArray⟩) := hN.2.1
          have r36 : xz 2 = (.pointer (some ⟨b, 0, none⟩)) := hN.2.2.1
          have r37 : (fun (v : Value) (w1 : World) => v = .string ⟨s2.toArray⟩ ∧ RdP w1 b all r2 dp) (xz 3) wxz := hN.2.2.2.1
          have r38 : xz 4 = (.pointer (some ⟨Y, 1, none⟩)) := hN.2.2.2.2.1
          have rN : (fun (v : Value) (w1 : World) => w1.heap[Y]? = some (.cells #[.int .u8 1, .string ⟨s.toArray⟩, .string ⟨s.toArray⟩, .string ⟨#[]⟩, .slice none 0 0, .slice none 0 0, .slice none 0 0] 51 (0, 0)) ∧ RdP w1 b all r2 dp) (xz 5) wxz := hN.2.2.2.2.2.1
          have r39 : xz 6 = (.pointer (some ⟨Y, 2, none⟩)) := hN.2.2.2.2.2.2.1
          clear hN
          simp only [putAll, Act.put, List.setIfInBounds_toArray, List.set_cons_succ, List.set_cons_zero, r34, r35, r36, r38, r39]
          clear r34 r35 r36 r38 r39
          obtain ⟨e1, e3⟩ := r37
          obtain ⟨hyb, hrb⟩ := rN
          rw [e1]
          have hrz := (oxz.block B (by have := (Array.getElem?_eq_some_iff.1 HR4.out).1; exact this) (fun h => by rcases h with h | h; have h : B = b := h; omega; have h : B = Y := h; omega)).trans HR4.out
          have hy5 := heap_set (o := 2) hyb (.string ⟨s2.toArray⟩)
          have hy5 : (wxz.setCell ⟨Y, 2, none⟩ (.string ⟨s2.toArray⟩)).heap[Y]? = some (.cells #[.int .u8 1, .string ⟨s.toArray⟩, .string ⟨s2.toArray⟩, .string ⟨#[]⟩, .slice none 0 0, .slice none 0 0, .slice none 0 0] 51 (0, 0)) := by simpa using hy5
          have os5 : Only (fun k => k = Y) wxz (wxz.setCell ⟨Y, 2, none⟩ (.string ⟨s2.toArray⟩)) := (Only.refl (fun k => k = Y) _).setCell (p := ⟨Y, 2, none⟩) (.inl rfl) _
          have hr5 := (os5.block B (Array.getElem?_eq_some_iff.1 hrz).1 (by omega)).trans hrz
          have h5 := hrb.only os5 (fun k hk e => by have e : k = Y := e; omega)
          have oall : Only (fun k => k = b ∨ k = Y) w4 (wxz.setCell ⟨Y, 2, none⟩ (.string ⟨s2.toArray⟩)) := (((Only.refl _ w4).drew).trans' oxz (fun q _ h => h)).trans' os5 (fun q _ h => .inr h)
          have ho5 : Only (fun k => k = b) w (wxz.setCell ⟨Y, 2, none⟩ (.string ⟨s2.toArray⟩)) := HO4.out.trans' oall (fun q hq h => by rcases h with h | h; exact h; have := HWB.out; omega)
          obtain ⟨y0, y1, y2, y3, y4, y5, y6, yz⟩ := boxN7 hyb
          clear hrz hyb hrb oxz e1 e3 oall
          go_upto_region 14 with (fail)
          clear y0 y1 y2 y3 y4 y5 y6 yz
          obtain ⟨w5, hw5⟩ : ∃ x, wxz.setCell ⟨Y, 2, none⟩ (.string ⟨s2.toArray⟩) = x := ⟨_, rfl⟩
          rw [hw5] at hy5 os5 hr5 h5 ho5
          rw [hw5]
          have HY5 := Lib.hid hy5; have HR5 := Lib.hid hr5; have H5 := Lib.hid h5; have HO5 := Lib.hid ho5
          clear hw5 hy5 os5 hr5 h5 ho5 HY4 HR4 H4 HO4 J hY4
          have J := Lib.hid (KCA.out r2 w5 H5.out)
          cases hq : argsP d r2 with
          | bad a c =>
            rw [hq] at J
            have HE := Lib.hid (HS5.out.trans (bind_bad hq)); clear hq
            go_wp2_with fail
            refine J.out.mono ?_
            rintro e wz ⟨rfl, ⟨r'', dp', h1, h2, h3, h4⟩, h5⟩
            exact ⟨rfl, FB.out _ _ _ _ _ HE.out h1 h2 h3 h4 (HO5.out.trans h5)⟩
          | ok gs r3 =>
            rw [hq] at J
            have HS6 := Lib.hid (HS5.out.trans (bind_ok hq)); clear hq HS5
            go_wp2_with fail
            refine J.out.mono ?_
            rintro e w6 ⟨v, rfl, hv, h4, o4⟩
            have hsz6 : B ≤ w5.heap.size := by have := (Array.getElem?_eq_some_iff.1 HR5.out).1; omega
            have hsy6 : Y < w5.heap.size := (Array.getElem?_eq_some_iff.1 HY5.out).1
            have hv := CellAt.weaken (G' := fun q => Y < q) (fun q _ h => by have h : w5.heap.size ≤ q := h; show Y < q; omega) _ _ hv
            obtain ⟨ar6, cr6, er6⟩ := row_form hv
            rw [List.length_map] at er6
            subst er6
            have hv : CellAt w6 (fun q => Y < q) (.row 6 (gs.map argC)) (.slice ar6 gs.length cr6) := hv
            have HP6 := Lib.hid hv; clear hv
            have hr6 := (o4.block B (Array.getElem?_eq_some_iff.1 HR5.out).1 (by omega)).trans HR5.out
            have HR6 := Lib.hid hr6
            have hy6 := (o4.block Y (Array.getElem?_eq_some_iff.1 HY5.out).1 (by omega)).trans HY5.out
            have HY6 := Lib.hid hy6
            have HO6 := Lib.hid (HO5.out.trans' o4 (fun q hq e => by exact e))
            clear hr6 hy6
            have H6 := Lib.hid h4; clear h4 o4 J
            clear HR5 HO5 H5 HY5
            obtain ⟨y0, y1, y2, y3, y4, y5, y6, yz⟩ := boxN7 HY6.out
            go_upto_region 15 with (fail)
            clear y0 y1 y2 y3 y4 y5 y6 yz
            have hy7 := heap_set (o := 4) HY6.out (.slice ar6 gs.length cr6)
            have hy7 : (w6.setCell ⟨Y, 4, none⟩ (.slice ar6 gs.length cr6)).heap[Y]? = some (.cells #[.int .u8 1, .string ⟨s.toArray⟩, .string ⟨s2.toArray⟩, .string ⟨#[]⟩, .slice ar6 gs.length cr6, .slice none 0 0, .slice none 0 0] 51 (0, 0)) := by simpa using hy7
            have os7 : Only (fun k => k = Y) w6 (w6.setCell ⟨Y, 4, none⟩ (.slice ar6 gs.length cr6)) := (Only.refl (fun k => k = Y) _).setCell (p := ⟨Y, 4, none⟩) (.inl rfl) _
            obtain ⟨w7, hw7⟩ : ∃ x, w6.setCell ⟨Y, 4, none⟩ (.slice ar6 gs.length cr6) = x := ⟨_, rfl⟩
            rw [hw7] at hy7 os7
            rw [hw7]
            clear hw7
            have HY7 := Lib.hid hy7
            have H7 := Lib.hid (H6.out.only os7 (fun k hk e => by omega)); have HS7 := HS6
            have HF7_4 := Lib.hid (CellAt.only os7 (fun k hk e => by omega) _ _ HP6.out)
            have hr7 := (os7.block B (Array.getElem?_eq_some_iff.1 HR6.out).1 (by omega)).trans HR6.out
            have HR7 := Lib.hid hr7
            have HO7 := Lib.hid (HO6.out.trans' os7 (fun q hq e => by have e : q = Y := e; have := HWB.out; omega))
            clear hr7
            clear HP6
            clear hy7 os7 HS6
            clear HR6 HO6 H6 HY6
            have J := Lib.hid (KCD.out r3 w7 H7.out)
            cases hq : dirsP d (r3.length + 1) [] r3 with
            | bad a c =>
              rw [hq] at J
              have HE := Lib.hid (HS7.out.trans (bind_bad hq)); clear hq
              go_wp2_with fail
              refine J.out.mono ?_
              rintro e wz ⟨rfl, ⟨r'', dp', h1, h2, h3, h4⟩, h5⟩
              exact ⟨rfl, FB.out _ _ _ _ _ HE.out h1 h2 h3 h4 (HO7.out.trans h5)⟩
            | ok ds r4 =>
              rw [hq] at J
              have HS8 := Lib.hid (HS7.out.trans (bind_ok hq)); clear hq HS7
              go_wp2_with fail
              refine J.out.mono ?_
              rintro e w8 ⟨v, rfl, hv, h4, o4⟩
              have hsz8 : B ≤ w7.heap.size := by have := (Array.getElem?_eq_some_iff.1 HR7.out).1; omega
              have hsy8 : Y < w7.heap.size := (Array.getElem?_eq_some_iff.1 HY7.out).1
              have hv := CellAt.weaken (G' := fun q => Y < q) (fun q _ h => by have h : w7.heap.size ≤ q := h; show Y < q; omega) _ _ hv
              obtain ⟨ar8, cr8, er8⟩ := row_form hv
              rw [List.length_map] at er8
              subst er8
              have hv : CellAt w8 (fun q => Y < q) (.row 2 (ds.map dirC)) (.slice ar8 ds.length cr8) := hv
              have HP8 := Lib.hid hv; clear hv
              have hr8 := (o4.block B (Array.getElem?_eq_some_iff.1 HR7.out).1 (by omega)).trans HR7.out
              have HR8 := Lib.hid hr8
              have hy8 := (o4.block Y (Array.getElem?_eq_some_iff.1 HY7.out).1 (by omega)).trans HY7.out
              have HY8 := Lib.hid hy8
              have HF8_4 := Lib.hid (CellAt.only o4 (fun k hk e => by omega) _ _ HF7_4.out)
              have HO8 := Lib.hid (HO7.out.trans' o4 (fun q hq e => by exact e))
              clear hr8 hy8
              have H8 := Lib.hid h4; clear h4 o4 J
              clear HR7 HO7 H7 HY7 HF7_4
              obtain ⟨y0, y1, y2, y3, y4, y5, y6, yz⟩ := boxN7 HY8.out
              go_upto_region 16 with (fail)
              clear y0 y1 y2 y3 y4 y5 y6 yz
              have hy9 := heap_set (o := 5) HY8.out (.slice ar8 ds.length cr8)
              have hy9 : (w8.setCell ⟨Y, 5, none⟩ (.slice ar8 ds.length cr8)).heap[Y]? = some (.cells #[.int .u8 1, .string ⟨s.toArray⟩, .string ⟨s2.toArray⟩, .string ⟨#[]⟩, .slice ar6 gs.length cr6, .slice ar8 ds.length cr8, .slice none 0 0] 51 (0, 0)) := by simpa using hy9
              have os9 : Only (fun k => k = Y) w8 (w8.setCell ⟨Y, 5, none⟩ (.slice ar8 ds.length cr8)) := (Only.refl (fun k => k = Y) _).setCell (p := ⟨Y, 5, none⟩) (.inl rfl) _
              obtain ⟨w9, hw9⟩ : ∃ x, w8.setCell ⟨Y, 5, none⟩ (.slice ar8 ds.length cr8) = x := ⟨_, rfl⟩
              rw [hw9] at hy9 os9
              rw [hw9]
              clear hw9
              have HY9 := Lib.hid hy9
              have H9 := Lib.hid (H8.out.only os9 (fun k hk e => by omega)); have HS9 := HS8
              have HF9_5 := Lib.hid (CellAt.only os9 (fun k hk e => by omega) _ _ HP8.out)
              have hr9 := (os9.block B (Array.getElem?_eq_some_iff.1 HR8.out).1 (by omega)).trans HR8.out
              have HR9 := Lib.hid hr9
              have HF9_4 := Lib.hid (CellAt.only os9 (fun k hk e => by omega) _ _ HF8_4.out)
              have HO9 := Lib.hid (HO8.out.trans' os9 (fun q hq e => by have e : q = Y := e; have := HWB.out; omega))
              clear hr9
              clear HP8
              clear hy9 os9 HS8
              clear HR8 HO8 H8 HY8 HF8_4
              have J := Lib.hid (is_any b all r4 dp [123] w9 H9.out)
              obtain ⟨bb10, hb10⟩ : ∃ x, isS [123] r4 = x := ⟨_, rfl⟩
              rw [hb10] at J
              have HBT10 := Lib.hid hb10; clear hb10
              cases bb10
              rotate_left
              ·
                go_wp2_with fail
                refine J.out.mono ?_
                rintro e w10 ⟨rfl, o4⟩
                have hr10 := (o4.block B (Array.getElem?_eq_some_iff.1 HR9.out).1 (fun h => h)).trans HR9.out
                have HR10 := Lib.hid hr10
                have hy10 := (o4.block Y (Array.getElem?_eq_some_iff.1 HY9.out).1 (fun h => h)).trans HY9.out
                have HY10 := Lib.hid hy10
                have HF10_4 := Lib.hid (CellAt.only o4 (fun k hk e => e.elim) _ _ HF9_4.out)
                have HF10_5 := Lib.hid (CellAt.only o4 (fun k hk e => e.elim) _ _ HF9_5.out)
                have HO10 := Lib.hid (HO9.out.trans' o4 (fun q hq e => by exact e.elim))
                clear hr10 hy10
                have H10 := Lib.hid (H9.out.still o4); clear o4 J
                have HS10 := HS9
                clear HS9
                clear HR9 HO9 H9 HY9 HF9_4 HF9_5
                have J := Lib.hid (KCS.out r4 w10 H10.out)
                cases hq : setP d r4 with
                | bad a c =>
                  rw [hq] at J
                  have HE := Lib.hid (HS10.out.trans (bind_bad ((if_pos HBT10.out).trans hq))); clear hq
                  go_wp2_with fail
                  refine J.out.mono ?_
                  rintro e wz ⟨rfl, ⟨r'', dp', h1, h2, h3, h4⟩, h5⟩
                  exact ⟨rfl, FB.out _ _ _ _ _ HE.out h1 h2 h3 h4 (HO10.out.trans h5)⟩
                | ok sub r5 =>
                  rw [hq] at J
                  have HS11 := Lib.hid (HS10.out.trans (bind_ok ((if_pos HBT10.out).trans hq))); clear hq HS10
                  go_wp2_with fail
                  refine J.out.mono ?_
                  rintro e w11 ⟨v, rfl, hv, h4, o4⟩
                  have hsz11 : B ≤ w10.heap.size := by have := (Array.getElem?_eq_some_iff.1 HR10.out).1; omega
                  have hsy11 : Y < w10.heap.size := (Array.getElem?_eq_some_iff.1 HY10.out).1
                  have hv := CellAt.weaken (G' := fun q => Y < q) (fun q _ h => by have h : w10.heap.size ≤ q := h; show Y < q; omega) _ _ hv
                  obtain ⟨ar11, cr11, er11⟩ := row_form hv
                  rw [List.length_map] at er11
                  subst er11
                  have hv : CellAt w11 (fun q => Y < q) (.row 7 (sub.map selC)) (.slice ar11 sub.length cr11) := hv
                  have HP11 := Lib.hid hv; clear hv
                  have hr11 := (o4.block B (Array.getElem?_eq_some_iff.1 HR10.out).1 (by omega)).trans HR10.out
                  have HR11 := Lib.hid hr11
                  have hy11 := (o4.block Y (Array.getElem?_eq_some_iff.1 HY10.out).1 (by omega)).trans HY10.out
                  have HY11 := Lib.hid hy11
                  have HF11_4 := Lib.hid (CellAt.only o4 (fun k hk e => by omega) _ _ HF10_4.out)
                  have HF11_5 := Lib.hid (CellAt.only o4 (fun k hk e => by omega) _ _ HF10_5.out)
                  have HO11 := Lib.hid (HO10.out.trans' o4 (fun q hq e => by exact e))
                  clear hr11 hy11
                  have H11 := Lib.hid h4; clear h4 o4 J
                  clear HR10 HO10 H10 HY10 HF10_4 HF10_5
                  obtain ⟨y0, y1, y2, y3, y4, y5, y6, yz⟩ := boxN7 HY11.out
                  go_upto_region 18 with (fail)
                  clear y0 y1 y2 y3 y4 y5 y6 yz
                  have hy12 := heap_set (o := 6) HY11.out (.slice ar11 sub.length cr11)
                  have hy12 : (w11.setCell ⟨Y, 6, none⟩ (.slice ar11 sub.length cr11)).heap[Y]? = some (.cells #[.int .u8 1, .string ⟨s.toArray⟩, .string ⟨s2.toArray⟩, .string ⟨#[]⟩, .slice ar6 gs.length cr6, .slice ar8 ds.length cr8, .slice ar11 sub.length cr11] 51 (0, 0)) := by simpa using hy12
                  have os12 : Only (fun k => k = Y) w11 (w11.setCell ⟨Y, 6, none⟩ (.slice ar11 sub.length cr11)) := (Only.refl (fun k => k = Y) _).setCell (p := ⟨Y, 6, none⟩) (.inl rfl) _
                  obtain ⟨w12, hw12⟩ : ∃ x, w11.setCell ⟨Y, 6, none⟩ (.slice ar11 sub.length cr11) = x := ⟨_, rfl⟩
                  rw [hw12] at hy12 os12
                  rw [hw12]
                  clear hw12
                  have HY12 := Lib.hid hy12
                  have H12 := Lib.hid (H11.out.only os12 (fun k hk e => by omega)); have HS12 := HS11
                  have HF12_6 := Lib.hid (CellAt.only os12 (fun k hk e => by omega) _ _ HP11.out)
                  have hr12 := (os12.block B (Array.getElem?_eq_some_iff.1 HR11.out).1 (by omega)).trans HR11.out
                  have HR12 := Lib.hid hr12
                  have HF12_4 := Lib.hid (CellAt.only os12 (fun k hk e => by omega) _ _ HF11_4.out)
                  have HF12_5 := Lib.hid (CellAt.only os12 (fun k hk e => by omega) _ _ HF11_5.out)
                  have HO12 := Lib.hid (HO11.out.trans' os12 (fun q hq e => by have e : q = Y := e; have := HWB.out; omega))
                  clear hr12
                  clear HP11
                  clear hy12 os12 HS11
                  clear HR11 HO11 H11 HY11 HF11_4 HF11_5
                  obtain ⟨y0, y1, y2, y3, y4, y5, y6, yz⟩ := boxN7 HY12.out
                  go_wp2_with ((refine wpList_store_box (o := ⟨none, _, _, _, _, _⟩) rfl 51 (.tmp 2) (.tmp 51) (by rfl) B [.int .u8 0, .string ⟨#[]⟩, .string ⟨#[]⟩, .string ⟨#[]⟩, .slice none 0 0, .slice none 0 0, .slice none 0 0] [.int .u8 1, .string ⟨s.toArray⟩, .string ⟨s2.toArray⟩, .string ⟨#[]⟩, .slice ar6 gs.length cr6, .slice ar8 ds.length cr8, .slice ar11 sub.length cr11] (by rfl) (by rfl) HR12.out (by rfl) (by kernel_rfl) (by intro u hu; simp at hu; rcases hu with rfl | rfl | rfl | rfl | rfl | rfl | rfl <;> rfl) ?_; intro w9 k1 k2))
                  clear y0 y1 y2 y3 y4 y5 y6 yz
                  obtain ⟨y0, y1, y2, y3, y4, y5, y6, -⟩ := boxN7 k1
                  have hf4 := CellAt.weaken (G' := fun q => B ≤ q) (fun q _ h => by have h : Y < q := h; show B ≤ q; omega) _ _ (CellAt.only k2 (fun k hk e => by omega) _ _ HF12_4.out)
                  have hf5 := CellAt.weaken (G' := fun q => B ≤ q) (fun q _ h => by have h : Y < q := h; show B ≤ q; omega) _ _ (CellAt.only k2 (fun k hk e => by omega) _ _ HF12_5.out)
                  have hf6 := CellAt.weaken (G' := fun q => B ≤ q) (fun q _ h => by have h : Y < q := h; show B ≤ q; omega) _ _ (CellAt.only k2 (fun k hk e => by omega) _ _ HF12_6.out)
                  exact bodyPost_ret (v := .agg #[.int .u8 1, .string ⟨s.toArray⟩, .string ⟨s2.toArray⟩, .string ⟨#[]⟩, .slice ar6 gs.length cr6, .slice ar8 ds.length cr8, .slice ar11 sub.length cr11]) (by simp [results, Tryd.results49, go_sem, y0, y1, y2, y3, y4, y5, y6]) rfl (FO.out (.mk 1 s s2 [] gs ds sub) _ w9 _ HS12.out ⟨_, rfl, by rw [selC, selCs_map]; exact CellsAt.lit rfl (CellsAt.lit rfl (CellsAt.lit rfl (CellsAt.lit rfl (CellsAt.cons hf4 (CellsAt.cons hf5 (CellsAt.cons hf6 (CellsAt.nil _ _)))))))⟩ (H12.out.only k2 (fun k hk e => by omega)) (HO12.out.trans' k2 (fun q hq e => by have := HWB.out; omega)))
              ·
                go_wp2_with fail
                refine J.out.mono ?_
                rintro e w10 ⟨rfl, o4⟩
                have hr10 := (o4.block B (Array.getElem?_eq_some_iff.1 HR9.out).1 (fun h => h)).trans HR9.out
                have HR10 := Lib.hid hr10
                have hy10 := (o4.block Y (Array.getElem?_eq_some_iff.1 HY9.out).1 (fun h => h)).trans HY9.out
                have HY10 := Lib.hid hy10
                have HF10_4 := Lib.hid (CellAt.only o4 (fun k hk e => e.elim) _ _ HF9_4.out)
                have HF10_5 := Lib.hid (CellAt.only o4 (fun k hk e => e.elim) _ _ HF9_5.out)
                have HO10 := Lib.hid (HO9.out.trans' o4 (fun q hq e => by exact e.elim))
                clear hr10 hy10
                have H10 := Lib.hid (H9.out.still o4); clear o4 J
                have HS10 := Lib.hid (HS9.out.trans (bind_ok (if_neg (by rw [HBT10.out]; decide))))
                clear HS9
                clear HR9 HO9 H9 HY9 HF9_4 HF9_5
                go_upto_region 18 with (fail)
                obtain ⟨y0, y1, y2, y3, y4, y5, y6, yz⟩ := boxN7 HY10.out
                go_wp2_with ((refine wpList_store_box (o := ⟨none, _, _, _, _, _⟩) rfl 51 (.tmp 2) (.tmp 51) (by rfl) B [.int .u8 0, .string ⟨#[]⟩, .string ⟨#[]⟩, .string ⟨#[]⟩, .slice none 0 0, .slice none 0 0, .slice none 0 0] [.int .u8 1, .string ⟨s.toArray⟩, .string ⟨s2.toArray⟩, .string ⟨#[]⟩, .slice ar6 gs.length cr6, .slice ar8 ds.length cr8, .slice none 0 0] (by rfl) (by rfl) HR10.out (by rfl) (by kernel_rfl) (by intro u hu; simp at hu; rcases hu with rfl | rfl | rfl | rfl | rfl | rfl | rfl <;> rfl) ?_; intro w9 k1 k2))
                clear y0 y1 y2 y3 y4 y5 y6 yz
                obtain ⟨y0, y1, y2, y3, y4, y5, y6, -⟩ := boxN7 k1
                have hf4 := CellAt.weaken (G' := fun q => B ≤ q) (fun q _ h => by have h : Y < q := h; show B ≤ q; omega) _ _ (CellAt.only k2 (fun k hk e => by omega) _ _ HF10_4.out)
                have hf5 := CellAt.weaken (G' := fun q => B ≤ q) (fun q _ h => by have h : Y < q := h; show B ≤ q; omega) _ _ (CellAt.only k2 (fun k hk e => by omega) _ _ HF10_5.out)
                exact bodyPost_ret (v := .agg #[.int .u8 1, .string ⟨s.toArray⟩, .string ⟨s2.toArray⟩, .string ⟨#[]⟩, .slice ar6 gs.length cr6, .slice ar8 ds.length cr8, .slice none 0 0]) (by simp [results, Tryd.results49, go_sem, y0, y1, y2, y3, y4, y5, y6]) rfl (FO.out (.mk 1 s s2 [] gs ds []) _ w9 _ HS10.out ⟨_, rfl, by rw [selC, selCs]; exact CellsAt.lit rfl (CellsAt.lit rfl (CellsAt.lit rfl (CellsAt.lit rfl (CellsAt.cons hf4 (CellsAt.cons hf5 (CellsAt.cons (CellAt.nilRow _ _ _) (CellsAt.nil _ _)))))))⟩ (H10.out.only k2 (fun k hk e => by omega)) (HO10.out.trans' k2 (fun q hq e => by have := HWB.out; omega)))
      ·
        rw [if_neg (by decide)] at J
        go_wp2_with fail
        refine J.out.mono ?_
        rintro e w4 ⟨rfl, h4, o4⟩
        have hr4 := (o4.block B (Array.getElem?_eq_some_iff.1 HR3.out).1 (by omega)).trans HR3.out
        have HR4 := Lib.hid hr4
        have hy4 := (o4.block Y (Array.getElem?_eq_some_iff.1 HY3.out).1 (by omega)).trans HY3.out
        have HY4 := Lib.hid hy4
        have HO4 := Lib.hid (HO3.out.trans' o4 (fun q hq e => by exact e))
        clear hr4 hy4
        have H4 := Lib.hid h4; clear h4 o4 J
        have HS4 := Lib.hid (HS3.out.trans (bind_ok (if_neg (by rw [HBT4.out]; decide))))
        clear HS3
        clear HR3 HO3 H3 HY3
        have J := Lib.hid (KCA.out r1 w4 H4.out)
        cases hq : argsP d r1 with
        | bad a c =>
          rw [hq] at J
          have HE := Lib.hid (HS4.out.trans (bind_bad hq)); clear hq
          go_wp2_with fail
          refine J.out.mono ?_
          rintro e wz ⟨rfl, ⟨r'', dp', h1, h2, h3, h4⟩, h5⟩
          exact ⟨rfl, FB.out _ _ _ _ _ HE.out h1 h2 h3 h4 (HO4.out.trans h5)⟩
        | ok gs r3 =>
          rw [hq] at J
          have HS5 := Lib.hid (HS4.out.trans (bind_ok hq)); clear hq HS4
          go_wp2_with fail
          refine J.out.mono ?_
          rintro e w5 ⟨v, rfl, hv, h4, o4⟩
          have hsz5 : B ≤ w4.heap.size := by have := (Array.getElem?_eq_some_iff.1 HR4.out).1; omega
          have hsy5 : Y < w4.heap.size := (Array.getElem?_eq_some_iff.1 HY4.out).1
          have hv := CellAt.weaken (G' := fun q => Y < q) (fun q _ h => by have h : w4.heap.size ≤ q := h; show Y < q; omega) _ _ hv
          obtain ⟨ar5, cr5, er5⟩ := row_form hv
          rw [List.length_map] at er5
          subst er5
          have hv : CellAt w5 (fun q => Y < q) (.row 6 (gs.map argC)) (.slice ar5 gs.length cr5) := hv
          have HP5 := Lib.hid hv; clear hv
          have hr5 := (o4.block B (Array.getElem?_eq_some_iff.1 HR4.out).1 (by omega)).trans HR4.out
          have HR5 := Lib.hid hr5
          have hy5 := (o4.block Y (Array.getElem?_eq_some_iff.1 HY4.out).1 (by omega)).trans HY4.out
          have HY5 := Lib.hid hy5
          have HO5 := Lib.hid (HO4.out.trans' o4 (fun q hq e => by exact e))
          clear hr5 hy5
          have H5 := Lib.hid h4; clear h4 o4 J
          clear HR4 HO4 H4 HY4
          obtain ⟨y0, y1, y2, y3, y4, y5, y6, yz⟩ := boxN7 HY5.out
          go_upto_region 15 with (fail)
          clear y0 y1 y2 y3 y4 y5 y6 yz
          have hy6 := heap_set (o := 4) HY5.out (.slice ar5 gs.length cr5)
          have hy6 : (w5.setCell ⟨Y, 4, none⟩ (.slice ar5 gs.length cr5)).heap[Y]? = some (.cells #[.int .u8 1, .string ⟨#[]⟩, .string ⟨s.toArray⟩, .string ⟨#[]⟩, .slice ar5 gs.length cr5, .slice none 0 0, .slice none 0 0] 51 (0, 0)) := by simpa using hy6
          have os6 : Only (fun k => k = Y) w5 (w5.setCell ⟨Y, 4, none⟩ (.slice ar5 gs.length cr5)) := (Only.refl (fun k => k = Y) _).setCell (p := ⟨Y, 4, none⟩) (.inl rfl) _
          obtain ⟨w6, hw6⟩ : ∃ x, w5.setCell ⟨Y, 4, none⟩ (.slice ar5 gs.length cr5) = x := ⟨_, rfl⟩
          rw [hw6] at hy6 os6
          rw [hw6]
          clear hw6
          have HY6 := Lib.hid hy6
          have H6 := Lib.hid (H5.out.only os6 (fun k hk e => by omega)); have HS6 := HS5
          have HF6_4 := Lib.hid (CellAt.only os6 (fun k hk e => by omega) _ _ HP5.out)
          have hr6 := (os6.block B (Array.getElem?_eq_some_iff.1 HR5.out).1 (by omega)).trans HR5.out
          have HR6 := Lib.hid hr6
          have HO6 := Lib.hid (HO5.out.trans' os6 (fun q hq e => by have e : q = Y := e; have := HWB.out; omega))
          clear hr6
          clear HP5
          clear hy6 os6 HS5
          clear HR5 HO5 H5 HY5
          have J := Lib.hid (KCD.out r3 w6 H6.out)
          cases hq : dirsP d (r3.length + 1) [] r3 with
          | bad a c =>
            rw [hq] at J
            have HE := Lib.hid (HS6.out.trans (bind_bad hq)); clear hq
            go_wp2_with fail
            refine J.out.mono ?_
            rintro e wz ⟨rfl, ⟨r'', dp', h1, h2, h3, h4⟩, h5⟩
            exact ⟨rfl, FB.out _ _ _ _ _ HE.out h1 h2 h3 h4 (HO6.out.trans h5)⟩
          | ok ds r4 =>
            rw [hq] at J
            have HS7 := Lib.hid (HS6.out.trans (bind_ok hq)); clear hq HS6
            go_wp2_with fail
            refine J.out.mono ?_
            rintro e w7 ⟨v, rfl, hv, h4, o4⟩
            have hsz7 : B ≤ w6.heap.size := by have := (Array.getElem?_eq_some_iff.1 HR6.out).1; omega
            have hsy7 : Y < w6.heap.size := (Array.getElem?_eq_some_iff.1 HY6.out).1
            have hv := CellAt.weaken (G' := fun q => Y < q) (fun q _ h => by have h : w6.heap.size ≤ q := h; show Y < q; omega) _ _ hv
            obtain ⟨ar7, cr7, er7⟩ := row_form hv
            rw [List.length_map] at er7
            subst er7
            have hv : CellAt w7 (fun q => Y < q) (.row 2 (ds.map dirC)) (.slice ar7 ds.length cr7) := hv
            have HP7 := Lib.hid hv; clear hv
            have hr7 := (o4.block B (Array.getElem?_eq_some_iff.1 HR6.out).1 (by omega)).trans HR6.out
            have HR7 := Lib.hid hr7
            have hy7 := (o4.block Y (Array.getElem?_eq_some_iff.1 HY6.out).1 (by omega)).trans HY6.out
            have HY7 := Lib.hid hy7
            have HF7_4 := Lib.hid (CellAt.only o4 (fun k hk e => by omega) _ _ HF6_4.out)
            have HO7 := Lib.hid (HO6.out.trans' o4 (fun q hq e => by exact e))
            clear hr7 hy7
            have H7 := Lib.hid h4; clear h4 o4 J
            clear HR6 HO6 H6 HY6 HF6_4
            obtain ⟨y0, y1, y2, y3, y4, y5, y6, yz⟩ := boxN7 HY7.out
            go_upto_region 16 with (fail)
            clear y0 y1 y2 y3 y4 y5 y6 yz
            have hy8 := heap_set (o := 5) HY7.out (.slice ar7 ds.length cr7)
            have hy8 : (w7.setCell ⟨Y, 5, none⟩ (.slice ar7 ds.length cr7)).heap[Y]? = some (.cells #[.int .u8 1, .string ⟨#[]⟩, .string ⟨s.toArray⟩, .string ⟨#[]⟩, .slice ar5 gs.length cr5, .slice ar7 ds.length cr7, .slice none 0 0] 51 (0, 0)) := by simpa using hy8
            have os8 : Only (fun k => k = Y) w7 (w7.setCell ⟨Y, 5, none⟩ (.slice ar7 ds.length cr7)) := (Only.refl (fun k => k = Y) _).setCell (p := ⟨Y, 5, none⟩) (.inl rfl) _
            obtain ⟨w8, hw8⟩ : ∃ x, w7.setCell ⟨Y, 5, none⟩ (.slice ar7 ds.length cr7) = x := ⟨_, rfl⟩
            rw [hw8] at hy8 os8
            rw [hw8]
            clear hw8
            have HY8 := Lib.hid hy8
            have H8 := Lib.hid (H7.out.only os8 (fun k hk e => by omega)); have HS8 := HS7
            have HF8_5 := Lib.hid (CellAt.only os8 (fun k hk e => by omega) _ _ HP7.out)
            have hr8 := (os8.block B (Array.getElem?_eq_some_iff.1 HR7.out).1 (by omega)).trans HR7.out
            have HR8 := Lib.hid hr8
            have HF8_4 := Lib.hid (CellAt.only os8 (fun k hk e => by omega) _ _ HF7_4.out)
            have HO8 := Lib.hid (HO7.out.trans' os8 (fun q hq e => by have e : q = Y := e; have := HWB.out; omega))
            clear hr8
            clear HP7
            clear hy8 os8 HS7
            clear HR7 HO7 H7 HY7 HF7_4
            have J := Lib.hid (is_any b all r4 dp [123] w8 H8.out)
            obtain ⟨bb9, hb9⟩ : ∃ x, isS [123] r4 = x := ⟨_, rfl⟩
            rw [hb9] at J
            have HBT9 := Lib.hid hb9; clear hb9
            cases bb9
            rotate_left
            ·
              go_wp2_with fail
              refine J.out.mono ?_
              rintro e w9 ⟨rfl, o4⟩
              have hr9 := (o4.block B (Array.getElem?_eq_some_iff.1 HR8.out).1 (fun h => h)).trans HR8.out
              have HR9 := Lib.hid hr9
              have hy9 := (o4.block Y (Array.getElem?_eq_some_iff.1 HY8.out).1 (fun h => h)).trans HY8.out
              have HY9 := Lib.hid hy9
              have HF9_4 := Lib.hid (CellAt.only o4 (fun k hk e => e.elim) _ _ HF8_4.out)
              have HF9_5 := Lib.hid (CellAt.only o4 (fun k hk e => e.elim) _ _ HF8_5.out)
              have HO9 := Lib.hid (HO8.out.trans' o4 (fun q hq e => by exact e.elim))
              clear hr9 hy9
              have H9 := Lib.hid (H8.out.still o4); clear o4 J
              have HS9 := HS8
              clear HS8
              clear HR8 HO8 H8 HY8 HF8_4 HF8_5
              have J := Lib.hid (KCS.out r4 w9 H9.out)
              cases hq : setP d r4 with
              | bad a c =>
                rw [hq] at J
                have HE := Lib.hid (HS9.out.trans (bind_bad ((if_pos HBT9.out).trans hq))); clear hq
                go_wp2_with fail
                refine J.out.mono ?_
                rintro e wz ⟨rfl, ⟨r'', dp', h1, h2, h3, h4⟩, h5⟩
                exact ⟨rfl, FB.out _ _ _ _ _ HE.out h1 h2 h3 h4 (HO9.out.trans h5)⟩
              | ok sub r5 =>
                rw [hq] at J
                have HS10 := Lib.hid (HS9.out.trans (bind_ok ((if_pos HBT9.out).trans hq))); clear hq HS9
                go_wp2_with fail
                refine J.out.mono ?_
                rintro e w10 ⟨v, rfl, hv, h4, o4⟩
                have hsz10 : B ≤ w9.heap.size := by have := (Array.getElem?_eq_some_iff.1 HR9.out).1; omega
                have hsy10 : Y < w9.heap.size := (Array.getElem?_eq_some_iff.1 HY9.out).1
                have hv := CellAt.weaken (G' := fun q => Y < q) (fun q _ h => by have h : w9.heap.size ≤ q := h; show Y < q; omega) _ _ hv
                obtain ⟨ar10, cr10, er10⟩ := row_form hv
                rw [List.length_map] at er10
                subst er10
                have hv : CellAt w10 (fun q => Y < q) (.row 7 (sub.map selC)) (.slice ar10 sub.length cr10) := hv
                have HP10 := Lib.hid hv; clear hv
                have hr10 := (o4.block B (Array.getElem?_eq_some_iff.1 HR9.out).1 (by omega)).trans HR9.out
                have HR10 := Lib.hid hr10
                have hy10 := (o4.block Y (Array.getElem?_eq_some_iff.1 HY9.out).1 (by omega)).trans HY9.out
                have HY10 := Lib.hid hy10
                have HF10_4 := Lib.hid (CellAt.only o4 (fun k hk e => by omega) _ _ HF9_4.out)
                have HF10_5 := Lib.hid (CellAt.only o4 (fun k hk e => by omega) _ _ HF9_5.out)
                have HO10 := Lib.hid (HO9.out.trans' o4 (fun q hq e => by exact e))
                clear hr10 hy10
                have H10 := Lib.hid h4; clear h4 o4 J
                clear HR9 HO9 H9 HY9 HF9_4 HF9_5
                obtain ⟨y0, y1, y2, y3, y4, y5, y6, yz⟩ := boxN7 HY10.out
                go_upto_region 18 with (fail)
                clear y0 y1 y2 y3 y4 y5 y6 yz
                have hy11 := heap_set (o := 6) HY10.out (.slice ar10 sub.length cr10)
                have hy11 : (w10.setCell ⟨Y, 6, none⟩ (.slice ar10 sub.length cr10)).heap[Y]? = some (.cells #[.int .u8 1, .string ⟨#[]⟩, .string ⟨s.toArray⟩, .string ⟨#[]⟩, .slice ar5 gs.length cr5, .slice ar7 ds.length cr7, .slice ar10 sub.length cr10] 51 (0, 0)) := by simpa using hy11
                have os11 : Only (fun k => k = Y) w10 (w10.setCell ⟨Y, 6, none⟩ (.slice ar10 sub.length cr10)) := (Only.refl (fun k => k = Y) _).setCell (p := ⟨Y, 6, none⟩) (.inl rfl) _
                obtain ⟨w11, hw11⟩ : ∃ x, w10.setCell ⟨Y, 6, none⟩ (.slice ar10 sub.length cr10) = x := ⟨_, rfl⟩
                rw [hw11] at hy11 os11
                rw [hw11]
                clear hw11
                have HY11 := Lib.hid hy11
                have H11 := Lib.hid (H10.out.only os11 (fun k hk e => by omega)); have HS11 := HS10
                have HF11_6 := Lib.hid (CellAt.only os11 (fun k hk e => by omega) _ _ HP10.out)
                have hr11 := (os11.block B (Array.getElem?_eq_some_iff.1 HR10.out).1 (by omega)).trans HR10.out
                have HR11 := Lib.hid hr11
                have HF11_4 := Lib.hid (CellAt.only os11 (fun k hk e => by omega) _ _ HF10_4.out)
                have HF11_5 := Lib.hid (CellAt.only os11 (fun k hk e => by omega) _ _ HF10_5.out)
                have HO11 := Lib.hid (HO10.out.trans' os11 (fun q hq e => by have e : q = Y := e; have := HWB.out; omega))
                clear hr11
                clear HP10
                clear hy11 os11 HS10
                clear HR10 HO10 H10 HY10 HF10_4 HF10_5
                obtain ⟨y0, y1, y2, y3, y4, y5, y6, yz⟩ := boxN7 HY11.out
                go_wp2_with ((refine wpList_store_box (o := ⟨none, _, _, _, _, _⟩) rfl 51 (.tmp 2) (.tmp 51) (by rfl) B [.int .u8 0, .string ⟨#[]⟩, .string ⟨#[]⟩, .string ⟨#[]⟩, .slice none 0 0, .slice none 0 0, .slice none 0 0] [.int .u8 1, .string ⟨#[]⟩, .string ⟨s.toArray⟩, .string ⟨#[]⟩, .slice ar5 gs.length cr5, .slice ar7 ds.length cr7, .slice ar10 sub.length cr10] (by rfl) (by rfl) HR11.out (by rfl) (by kernel_rfl) (by intro u hu; simp at hu; rcases hu with rfl | rfl | rfl | rfl | rfl | rfl | rfl <;> rfl) ?_; intro w9 k1 k2))
                clear y0 y1 y2 y3 y4 y5 y6 yz
                obtain ⟨y0, y1, y2, y3, y4, y5, y6, -⟩ := boxN7 k1
                have hf4 := CellAt.weaken (G' := fun q => B ≤ q) (fun q _ h => by have h : Y < q := h; show B ≤ q; omega) _ _ (CellAt.only k2 (fun k hk e => by omega) _ _ HF11_4.out)
                have hf5 := CellAt.weaken (G' := fun q => B ≤ q) (fun q _ h => by have h : Y < q := h; show B ≤ q; omega) _ _ (CellAt.only k2 (fun k hk e => by omega) _ _ HF11_5.out)
                have hf6 := CellAt.weaken (G' := fun q => B ≤ q) (fun q _ h => by have h : Y < q := h; show B ≤ q; omega) _ _ (CellAt.only k2 (fun k hk e => by omega) _ _ HF11_6.out)
                exact bodyPost_ret (v := .agg #[.int .u8 1, .string ⟨#[]⟩, .string ⟨s.toArray⟩, .string ⟨#[]⟩, .slice ar5 gs.length cr5, .slice ar7 ds.length cr7, .slice ar10 sub.length cr10]) (by simp [results, Tryd.results49, go_sem, y0, y1, y2, y3, y4, y5, y6]) rfl (FO.out (.mk 1 [] s [] gs ds sub) _ w9 _ HS11.out ⟨_, rfl, by rw [selC, selCs_map]; exact CellsAt.lit rfl (CellsAt.lit rfl (CellsAt.lit rfl (CellsAt.lit rfl (CellsAt.cons hf4 (CellsAt.cons hf5 (CellsAt.cons hf6 (CellsAt.nil _ _)))))))⟩ (H11.out.only k2 (fun k hk e => by omega)) (HO11.out.trans' k2 (fun q hq e => by have := HWB.out; omega)))
            ·
              go_wp2_with fail
              refine J.out.mono ?_
              rintro e w9 ⟨rfl, o4⟩
              have hr9 := (o4.block B (Array.getElem?_eq_some_iff.1 HR8.out).1 (fun h => h)).trans HR8.out
              have HR9 := Lib.hid hr9
              have hy9 := (o4.block Y (Array.getElem?_eq_some_iff.1 HY8.out).1 (fun h => h)).trans HY8.out
              have HY9 := Lib.hid hy9
              have HF9_4 := Lib.hid (CellAt.only o4 (fun k hk e => e.elim) _ _ HF8_4.out)
              have HF9_5 := Lib.hid (CellAt.only o4 (fun k hk e => e.elim) _ _ HF8_5.out)
              have HO9 := Lib.hid (HO8.out.trans' o4 (fun q hq e => by exact e.elim))
              clear hr9 hy9
              have H9 := Lib.hid (H8.out.still o4); clear o4 J
              have HS9 := Lib.hid (HS8.out.trans (bind_ok (if_neg (by rw [HBT9.out]; decide))))
              clear HS8
              clear HR8 HO8 H8 HY8 HF8_4 HF8_5
              go_upto_region 18 with (fail)
              obtain ⟨y0, y1, y2, y3, y4, y5, y6, yz⟩ := boxN7 HY9.out
              go_wp2_with ((refine wpList_store_box (o := ⟨none, _, _, _, _, _⟩) rfl 51 (.tmp 2) (.tmp 51) (by rfl) B [.int .u8 0, .string ⟨#[]⟩, .string ⟨#[]⟩, .string ⟨#[]⟩, .slice none 0 0, .slice none 0 0, .slice none 0 0] [.int .u8 1, .string ⟨#[]⟩, .string ⟨s.toArray⟩, .string ⟨#[]⟩, .slice ar5 gs.length cr5, .slice ar7 ds.length cr7, .slice none 0 0] (by rfl) (by rfl) HR9.out (by rfl) (by kernel_rfl) (by intro u hu; simp at hu; rcases hu with rfl | rfl | rfl | rfl | rfl | rfl | rfl <;> rfl) ?_; intro w9 k1 k2))
              clear y0 y1 y2 y3 y4 y5 y6 yz
              obtain ⟨y0, y1, y2, y3, y4, y5, y6, -⟩ := boxN7 k1
              have hf4 := CellAt.weaken (G' := fun q => B ≤ q) (fun q _ h => by have h : Y < q := h; show B ≤ q; omega) _ _ (CellAt.only k2 (fun k hk e => by omega) _ _ HF9_4.out)
              have hf5 := CellAt.weaken (G' := fun q => B ≤ q) (fun q _ h => by have h : Y < q := h; show B ≤ q; omega) _ _ (CellAt.only k2 (fun k hk e => by omega) _ _ HF9_5.out)
              exact bodyPost_ret (v := .agg #[.int .u8 1, .string ⟨#[]⟩, .string ⟨s.toArray⟩, .string ⟨#[]⟩, .slice ar5 gs.length cr5, .slice ar7 ds.length cr7, .slice none 0 0]) (by simp [results, Tryd.results49, go_sem, y0, y1, y2, y3, y4, y5, y6]) rfl (FO.out (.mk 1 [] s [] gs ds []) _ w9 _ HS9.out ⟨_, rfl, by rw [selC, selCs]; exact CellsAt.lit rfl (CellsAt.lit rfl (CellsAt.lit rfl (CellsAt.lit rfl (CellsAt.cons hf4 (CellsAt.cons hf5 (CellsAt.cons (CellAt.nilRow _ _ _) (CellsAt.nil _ _)))))))⟩ (H9.out.only k2 (fun k hk e => by omega)) (HO9.out.trans' k2 (fun q hq e => by have := HWB.out; omega)))
end Go.Proofs.YtgephneppgcnlaaDoor
