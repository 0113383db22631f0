/- parse.reader.operation. -/
import Derived.Test.YtgephneppgcnlaaDoorEnD
import Derived.Test.YtgephneppgcnlaaDoorOwC
import Derived.Test.YtgephneppgcnlaaDoorRst
namespace Go.Proofs.YtgephneppgcnlaaDoor
open Go Go.RowKit
set_option linter.unusedVariables false
set_option linter.unusedSimpArgs false

set_option maxRecDepth 100000 in
set_option maxHeartbeats 40000000 in
theorem operation_any (b : Nat) (all r : List Tok) (w : World) (h : RdP w b all r (24 - ((24 : Nat) : Int))) :
    Calls Tryd.prog 31 #[.pointer (some ⟨b, 0, none⟩)] w (Ans w b all (24 - ((24 : Nat) : Int)) (aggP w.heap.size opC) (opP r)) := by
  have hbl := h.lt
  have CS := fun (r : List Tok) (w : World) (h : RdP w b all r (24 - ((24 : Nat) : Int))) => set_any 24 b all r w (by decide) h
  have CM := fun (r : List Tok) (w : World) (h : RdP w b all r (24 - ((24 : Nat) : Int))) (hs : isS [40] r = true) => vars_any b all r w h hs
  obtain ⟨dp, hdp⟩ : ∃ dp : Int, 24 - ((24 : Nat) : Int) = dp := ⟨_, rfl⟩
  rw [hdp] at h ⊢
  rw [hdp] at CS
  rw [hdp] at CM
  clear hdp
  obtain ⟨B, hB⟩ : ∃ B, w.heap.size = B := ⟨_, rfl⟩
  have hbB : b < B := by omega
  obtain ⟨Q, hQ⟩ : ∃ Q, Ans w b all dp (aggP w.heap.size opC) (opP r) = Q := ⟨_, rfl⟩
  rw [hQ]
  have fb : ∀ a c w' r'' dp', opP r = .bad a c → RdP w' b all r'' dp' → atT r'' = a → dp ≤ dp' → dp' ≤ dp + 1 → Only (fun k => k = b) w w' → Q (.panicked (faultV c)) w' := fun a c w' r'' dp' e h1 h2 h3 h4 h5 => by
    rw [← hQ, e]; exact ⟨rfl, ⟨r'', dp', h1, h2, h3, h4⟩, h5⟩
  have fo : ∀ x r'' w' v, opP r = .ok x r'' → aggP B opC w' x v → RdP w' b all r'' dp → Only (fun k => k = b) w w' → Q (.returned v) w' := fun x r'' w' v e h1 h2 h3 => by
    rw [← hQ, e]; exact ⟨v, rfl, by rw [hB]; exact h1, h2, h3⟩
  have hs0 : opP r = opP r := rfl
  conv at hs0 => rhs; unfold opP
  obtain ⟨w0, hw0⟩ : ∃ w0, w.alloc (.cells #[.bool false, .string ⟨#[]⟩, .slice none 0 0, .slice none 0 0] 39) = w0 := ⟨_, rfl⟩
  have hr0 : w0.heap[B]? = some (.cells #[.bool false, .string ⟨#[]⟩, .slice none 0 0, .slice none 0 0] 39 (0, 0)) := by rw [← hw0, ← hB]; exact heap_new _ _
  have h0 : RdP w0 b all r dp := by rw [← hw0]; exact h.still ((Only.refl (fun _ => False) w).alloc _)
  have ho0 : Only (fun k => k = b) w w0 := by rw [← hw0]; exact (Only.refl _ w).alloc _
  have FB := Lib.hid fb; have FO := Lib.hid fo; have HS0 := Lib.hid hs0; have HR0 := Lib.hid hr0; have H0 := Lib.hid h0; have HO0 := Lib.hid ho0; have HW0 := Lib.hid hw0; have HBB := Lib.hid hB; have HWB := Lib.hid (show w.heap.size ≤ B by omega)
  have KCS := Lib.hid CS
  have KCM := Lib.hid CM
  clear fb fo hs0 hr0 h0 ho0 hw0 hB hQ h CS CM
  go_enter Tryd.func31, Tryd.ntmps31
  go_upto_region 1 with (fail)
  rw [HBB.out, HW0.out]
  clear HW0
  have J := Lib.hid (take_any b all r dp wMutation w0 H0.out)
  unfold tookP at J
  obtain ⟨bb1, hb1⟩ : ∃ x, isT wMutation r = x := ⟨_, rfl⟩
  rw [hb1] at J
  have HBT1 := Lib.hid hb1; clear hb1
  cases bb1
  rotate_left
  ·
    rw [if_pos rfl] at J
    go_wp2_with fail
    refine J.out.mono ?_
    rintro e w1 ⟨rfl, h4, o4⟩
    have hr1 := (o4.block B (Array.getElem?_eq_some_iff.1 HR0.out).1 (by omega)).trans HR0.out
    have HR1 := Lib.hid hr1
    have HO1 := Lib.hid (HO0.out.trans' o4 (fun q hq e => by exact e))
    clear hr1
    have H1 := Lib.hid h4; clear h4 o4 J
    have HS1 := Lib.hid (HS0.out.trans (bind_ok (if_pos HBT1.out)))
    clear HS0
    clear HR0 HO0 H0
    have hsz2 : B < w1.heap.size := (Array.getElem?_eq_some_iff.1 HR1.out).1
    obtain ⟨Y, hY⟩ : ∃ Y, w1.heap.size = Y := ⟨_, rfl⟩
    obtain ⟨w2, hw2⟩ : ∃ x, w1.alloc (.cells #[.bool true, .string ⟨#[]⟩, .slice none 0 0, .slice none 0 0] 39) = x := ⟨_, rfl⟩
    have hy2 : w2.heap[Y]? = some (.cells #[.bool true, .string ⟨#[]⟩, .slice none 0 0, .slice none 0 0] 39 (0, 0)) := by rw [← hw2, ← hY]; exact heap_new _ _
    have hr2 : w2.heap[B]? = some (.cells #[.bool false, .string ⟨#[]⟩, .slice none 0 0, .slice none 0 0] 39 (0, 0)) := by rw [← hw2]; exact heap_old HR1.out _
    have oa2 : Only (fun _ => False) w1 w2 := by rw [← hw2]; exact (Only.refl _ _).alloc _
    rw [hY] at hsz2
    have HY2 := Lib.hid hy2; have HR2 := Lib.hid hr2; have H2 := Lib.hid (H1.out.still oa2); have HO2 := Lib.hid (HO1.out.trans' oa2 (fun q _ e => e.elim)); have HW2 := Lib.hid hw2; have HYY := Lib.hid hY; have HS2 := HS1
    clear hy2 hr2 hw2 hY oa2 HR1 H1 HO1 HS1
    go_upto_region 2 with (fail)
    rw [HYY.out, HW2.out]
    clear HYY HW2
    obtain ⟨y0, y1, y2, y3, yz⟩ := boxN4 HY2.out
    go_upto_region 4 with (fail)
    clear y0 y1 y2 y3 yz
    have J := Lib.hid (kind_any b all r.tail dp 1 w2 H2.out (by decide))
    obtain ⟨bb3, hb3⟩ : ∃ x, isK 1 r.tail = x := ⟨_, rfl⟩
    rw [hb3] at J
    have HBT3 := Lib.hid hb3; clear hb3
    cases bb3
    rotate_left
    ·
      go_wp2_with fail
      refine J.out.mono ?_
      rintro e w3 ⟨rfl, o4⟩
      have hr3 := (o4.block B (Array.getElem?_eq_some_iff.1 HR2.out).1 (fun h => h)).trans HR2.out
      have HR3 := Lib.hid hr3
      have hy3 := (o4.block Y (Array.getElem?_eq_some_iff.1 HY2.out).1 (fun h => h)).trans HY2.out
      have HY3 := Lib.hid hy3
      have HO3 := Lib.hid (HO2.out.trans' o4 (fun q hq e => by exact e.elim))
      clear hr3 hy3
      have H3 := Lib.hid (H2.out.still o4); clear o4 J
      have HS3 := HS2
      clear HS2
      clear HR2 HO2 H2 HY2
      have J := Lib.hid (name_any b all (r.tail) dp w3 H3.out)
      cases hq : nameP r.tail with
      | bad a c =>
        rw [hq] at J
        have HE := Lib.hid (HS3.out.trans (bind_bad ((if_pos HBT3.out).trans hq))); clear hq
        go_wp2_with fail
        refine J.out.mono ?_
        rintro e wz ⟨rfl, ⟨r'', dp', h1, h2, h3, h4⟩, h5⟩
        exact ⟨rfl, FB.out _ _ _ _ _ HE.out h1 h2 h3 h4 (HO3.out.trans h5)⟩
      | ok s r2 =>
        rw [hq] at J
        have HS4 := Lib.hid (HS3.out.trans (bind_ok ((if_pos HBT3.out).trans hq))); clear hq HS3
        go_wp2_with fail
        refine J.out.mono ?_
        rintro e w4 ⟨v, rfl, hv, h4, o4⟩
        have hv : v = .string ⟨s.toArray⟩ := hv
        subst hv
        have hr4 := (o4.block B (Array.getElem?_eq_some_iff.1 HR3.out).1 (by omega)).trans HR3.out
        have HR4 := Lib.hid hr4
        have hy4 := (o4.block Y (Array.getElem?_eq_some_iff.1 HY3.out).1 (by omega)).trans HY3.out
        have HY4 := Lib.hid hy4
        have HO4 := Lib.hid (HO3.out.trans' o4 (fun q hq e => by exact e))
        clear hr4 hy4
        have H4 := Lib.hid h4; clear h4 o4 J
        clear HR3 HO3 H3 HY3
        obtain ⟨y0, y1, y2, y3, yz⟩ := boxN4 HY4.out
        go_upto_region 6 with (fail)
        clear y0 y1 y2 y3 yz
        have hy5 := heap_set (o := 1) HY4.out (.string ⟨s.toArray⟩)
        have hy5 : (w4.setCell ⟨Y, 1, none⟩ (.string ⟨s.toArray⟩)).heap[Y]? = some (.cells #[.bool true, .string ⟨s.toArray⟩, .slice none 0 0, .slice none 0 0] 39 (0, 0)) := by simpa using hy5
        have os5 : Only (fun k => k = Y) w4 (w4.setCell ⟨Y, 1, none⟩ (.string ⟨s.toArray⟩)) := (Only.refl (fun k => k = Y) _).setCell (p := ⟨Y, 1, none⟩) (.inl rfl) _
        obtain ⟨w5, hw5⟩ : ∃ x, w4.setCell ⟨Y, 1, none⟩ (.string ⟨s.toArray⟩) = x := ⟨_, rfl⟩
        rw [hw5] at hy5 os5
        rw [hw5]
        clear hw5
        have HY5 := Lib.hid hy5
        have H5 := Lib.hid (H4.out.only os5 (fun k hk e => by omega)); have HS5 := HS4
        have hr5 := (os5.block B (Array.getElem?_eq_some_iff.1 HR4.out).1 (by omega)).trans HR4.out
        have HR5 := Lib.hid hr5
        have HO5 := Lib.hid (HO4.out.trans' os5 (fun q hq e => by have e : q = Y := e; have := HWB.out; omega))
        clear hr5
        clear hy5 os5 HS4
        clear HR4 HO4 H4 HY4
        have J := Lib.hid (is_any b all r2 dp [40] w5 H5.out)
        obtain ⟨bb6, hb6⟩ : ∃ x, isS [40] r2 = x := ⟨_, rfl⟩
        rw [hb6] at J
        have HBT6 := Lib.hid hb6; clear hb6
        cases bb6
        rotate_left
        ·
          go_wp2_with fail
          refine J.out.mono ?_
          rintro e w6 ⟨rfl, o4⟩
          have hr6 := (o4.block B (Array.getElem?_eq_some_iff.1 HR5.out).1 (fun h => h)).trans HR5.out
          have HR6 := Lib.hid hr6
          have hy6 := (o4.block Y (Array.getElem?_eq_some_iff.1 HY5.out).1 (fun h => h)).trans HY5.out
          have HY6 := Lib.hid hy6
          have HO6 := Lib.hid (HO5.out.trans' o4 (fun q hq e => by exact e.elim))
          clear hr6 hy6
          have H6 := Lib.hid (H5.out.still o4); clear o4 J
          have HS6 := HS5
          clear HS5
          clear HR5 HO5 H5 HY5
          have hmf : ∀ (fn : Fn) (first cap : Array Value) (w : World), (Instr.makeFunc fn first cap).run Tryd.prog w = .ok (.func fn first cap) w := fun _ _ _ _ => rfl
          have J := Lib.hid (KCM.out r2 w6 H6.out HBT6.out)
          cases hq : manyP varP [41] (r2.length + 1) [] r2.tail with
          | bad a c =>
            rw [hq] at J
            have HE := Lib.hid (HS6.out.trans (bind_bad ((if_pos HBT6.out).trans hq))); clear hq
            go_wp2_with fail
            refine J.out.mono ?_
            rintro e wz ⟨rfl, ⟨r'', dp', h1, h2, h3, h4⟩, h5⟩
            exact ⟨rfl, FB.out _ _ _ _ _ HE.out h1 h2 h3 h4 (HO6.out.trans h5)⟩
          | ok vs r3 =>
            rw [hq] at J
            have HS7 := Lib.hid (HS6.out.trans (bind_ok ((if_pos HBT6.out).trans hq))); clear hq HS6
            go_wp2_with fail
            refine J.out.mono ?_
            rintro e w7 ⟨v, rfl, hv, h4, o4⟩
            have hsz7 : B ≤ w6.heap.size := by have := (Array.getElem?_eq_some_iff.1 HR6.out).1; omega
            have hsy7 : Y < w6.heap.size := (Array.getElem?_eq_some_iff.1 HY6.out).1
            have hv := CellAt.weaken (G' := fun q => Y < q) (fun q _ h => by have h : w6.heap.size ≤ q := h; show Y < q; omega) _ _ hv
            obtain ⟨ar7, cr7, er7⟩ := row_form hv
            rw [List.length_map] at er7
            subst er7
            have hv : CellAt w7 (fun q => Y < q) (.row 10 (vs.map vdC)) (.slice ar7 vs.length cr7) := hv
            have HP7 := Lib.hid hv; clear hv
            have hr7 := (o4.block B (Array.getElem?_eq_some_iff.1 HR6.out).1 (by omega)).trans HR6.out
            have HR7 := Lib.hid hr7
            have hy7 := (o4.block Y (Array.getElem?_eq_some_iff.1 HY6.out).1 (by omega)).trans HY6.out
            have HY7 := Lib.hid hy7
            have HO7 := Lib.hid (HO6.out.trans' o4 (fun q hq e => by exact e))
            clear hr7 hy7
            have H7 := Lib.hid h4; clear h4 o4 J
            clear HR6 HO6 H6 HY6
            obtain ⟨y0, y1, y2, y3, yz⟩ := boxN4 HY7.out
            go_upto_region 8 with (fail)
            clear y0 y1 y2 y3 yz
            have hy8 := heap_set (o := 2) HY7.out (.slice ar7 vs.length cr7)
            have hy8 : (w7.setCell ⟨Y, 2, none⟩ (.slice ar7 vs.length cr7)).heap[Y]? = some (.cells #[.bool true, .string ⟨s.toArray⟩, .slice ar7 vs.length cr7, .slice none 0 0] 39 (0, 0)) := by simpa using hy8
            have os8 : Only (fun k => k = Y) w7 (w7.setCell ⟨Y, 2, none⟩ (.slice ar7 vs.length cr7)) := (Only.refl (fun k => k = Y) _).setCell (p := ⟨Y, 2, none⟩) (.inl rfl) _
            obtain ⟨w8, hw8⟩ : ∃ x, w7.setCell ⟨Y, 2, none⟩ (.slice ar7 vs.length cr7) = x := ⟨_, rfl⟩
            rw [hw8] at hy8 os8
            rw [hw8]
            clear hw8
            have HY8 := Lib.hid hy8
            have H8 := Lib.hid (H7.out.only os8 (fun k hk e => by omega)); have HS8 := HS7
            have HF8_2 := Lib.hid (CellAt.only os8 (fun k hk e => by omega) _ _ HP7.out)
            have hr8 := (os8.block B (Array.getElem?_eq_some_iff.1 HR7.out).1 (by omega)).trans HR7.out
            have HR8 := Lib.hid hr8
            have HO8 := Lib.hid (HO7.out.trans' os8 (fun q hq e => by have e : q = Y := e; have := HWB.out; omega))
            clear hr8
            clear HP7
            clear hy8 os8 HS7
            clear HR7 HO7 H7 HY7
            have J := Lib.hid (KCS.out r3 w8 H8.out)
            cases hq : setP 24 r3 with
            | bad a c =>
              rw [hq] at J
              have HE := Lib.hid (HS8.out.trans (bind_bad hq)); clear hq
              go_wp2_with fail
              refine J.out.mono ?_
              rintro e wz ⟨rfl, ⟨r'', dp', h1, h2, h3, h4⟩, h5⟩
              exact ⟨rfl, FB.out _ _ _ _ _ HE.out h1 h2 h3 h4 (HO8.out.trans h5)⟩
            | ok sub r4 =>
              rw [hq] at J
              have HS9 := Lib.hid (HS8.out.trans (bind_ok hq)); clear hq HS8
              go_wp2_with fail
              refine J.out.mono ?_
              rintro e w9 ⟨v, rfl, hv, h4, o4⟩
              have hsz9 : B ≤ w8.heap.size := by have := (Array.getElem?_eq_some_iff.1 HR8.out).1; omega
              have hsy9 : Y < w8.heap.size := (Array.getElem?_eq_some_iff.1 HY8.out).1
              have hv := CellAt.weaken (G' := fun q => Y < q) (fun q _ h => by have h : w8.heap.size ≤ q := h; show Y < q; omega) _ _ hv
              obtain ⟨ar9, cr9, er9⟩ := row_form hv
              rw [List.length_map] at er9
              subst er9
              have hv : CellAt w9 (fun q => Y < q) (.row 7 (sub.map selC)) (.slice ar9 sub.length cr9) := hv
              have HP9 := Lib.hid hv; clear hv
              have hr9 := (o4.block B (Array.getElem?_eq_some_iff.1 HR8.out).1 (by omega)).trans HR8.out
              have HR9 := Lib.hid hr9
              have hy9 := (o4.block Y (Array.getElem?_eq_some_iff.1 HY8.out).1 (by omega)).trans HY8.out
              have HY9 := Lib.hid hy9
              have HF9_2 := Lib.hid (CellAt.only o4 (fun k hk e => by omega) _ _ HF8_2.out)
              have HO9 := Lib.hid (HO8.out.trans' o4 (fun q hq e => by exact e))
              clear hr9 hy9
              have H9 := Lib.hid h4; clear h4 o4 J
              clear HR8 HO8 H8 HY8 HF8_2
              obtain ⟨y0, y1, y2, y3, yz⟩ := boxN4 HY9.out
              go_upto_region 9 with (fail)
              clear y0 y1 y2 y3 yz
              have hy10 := heap_set (o := 3) HY9.out (.slice ar9 sub.length cr9)
              have hy10 : (w9.setCell ⟨Y, 3, none⟩ (.slice ar9 sub.length cr9)).heap[Y]? = some (.cells #[.bool true, .string ⟨s.toArray⟩, .slice ar7 vs.length cr7, .slice ar9 sub.length cr9] 39 (0, 0)) := by simpa using hy10
              have os10 : Only (fun k => k = Y) w9 (w9.setCell ⟨Y, 3, none⟩ (.slice ar9 sub.length cr9)) := (Only.refl (fun k => k = Y) _).setCell (p := ⟨Y, 3, none⟩) (.inl rfl) _
              obtain ⟨w10, hw10⟩ : ∃ x, w9.setCell ⟨Y, 3, none⟩ (.slice ar9 sub.length cr9) = x := ⟨_, rfl⟩
              rw [hw10] at hy10 os10
              rw [hw10]
              clear hw10
              have HY10 := Lib.hid hy10
              have H10 := Lib.hid (H9.out.only os10 (fun k hk e => by omega)); have HS10 := HS9
              have HF10_3 := Lib.hid (CellAt.only os10 (fun k hk e => by omega) _ _ HP9.out)
              have hr10 := (os10.block B (Array.getElem?_eq_some_iff.1 HR9.out).1 (by omega)).trans HR9.out
              have HR10 := Lib.hid hr10
              have HF10_2 := Lib.hid (CellAt.only os10 (fun k hk e => by omega) _ _ HF9_2.out)
              have HO10 := Lib.hid (HO9.out.trans' os10 (fun q hq e => by have e : q = Y := e; have := HWB.out; omega))
              clear hr10
              clear HP9
              clear hy10 os10 HS9
              clear HR9 HO9 H9 HY9 HF9_2
              obtain ⟨y0, y1, y2, y3, yz⟩ := boxN4 HY10.out
              go_wp2_with ((refine wpList_store_box (o := ⟨none, _, _, _, _, _⟩) rfl 39 (.tmp 2) (.tmp 27) (by rfl) B [.bool false, .string ⟨#[]⟩, .slice none 0 0, .slice none 0 0] [.bool true, .string ⟨s.toArray⟩, .slice ar7 vs.length cr7, .slice ar9 sub.length cr9] (by rfl) (by rfl) HR10.out (by rfl) (by kernel_rfl) (by intro u hu; simp at hu; rcases hu with rfl | rfl | rfl | rfl <;> rfl) ?_; intro w9 k1 k2))
              clear y0 y1 y2 y3 yz
              obtain ⟨y0, y1, y2, y3, -⟩ := boxN4 k1
              have hf2 := CellAt.weaken (G' := fun q => B ≤ q) (fun q _ h => by have h : Y < q := h; show B ≤ q; omega) _ _ (CellAt.only k2 (fun k hk e => by omega) _ _ HF10_2.out)
              have hf3 := CellAt.weaken (G' := fun q => B ≤ q) (fun q _ h => by have h : Y < q := h; show B ≤ q; omega) _ _ (CellAt.only k2 (fun k hk e => by omega) _ _ HF10_3.out)
              exact bodyPost_ret (v := .agg #[.bool true, .string ⟨s.toArray⟩, .slice ar7 vs.length cr7, .slice ar9 sub.length cr9]) (by simp [results, Tryd.results31, go_sem, y0, y1, y2, y3]) rfl (FO.out (⟨true, s, vs, sub⟩) _ w9 _ HS10.out ⟨_, rfl, CellsAt.lit rfl (CellsAt.lit rfl (CellsAt.cons hf2 (CellsAt.cons hf3 (CellsAt.nil _ _))))⟩ (H10.out.only k2 (fun k hk e => by omega)) (HO10.out.trans' k2 (fun q hq e => by have := HWB.out; omega)))
        ·
          go_wp2_with fail
          refine J.out.mono ?_
          rintro e w6 ⟨rfl, o4⟩
          have hr6 := (o4.block B (Array.getElem?_eq_some_iff.1 HR5.out).1 (fun h => h)).trans HR5.out
          have HR6 := Lib.hid hr6
          have hy6 := (o4.block Y (Array.getElem?_eq_some_iff.1 HY5.out).1 (fun h => h)).trans HY5.out
          have HY6 := Lib.hid hy6
          have HO6 := Lib.hid (HO5.out.trans' o4 (fun q hq e => by exact e.elim))
          clear hr6 hy6
          have H6 := Lib.hid (H5.out.still o4); clear o4 J
          have HS6 := Lib.hid (HS5.out.trans (bind_ok (if_neg (by rw [HBT6.out]; decide))))
          clear HS5
          clear HR5 HO5 H5 HY5
          have J := Lib.hid (KCS.out r2 w6 H6.out)
          cases hq : setP 24 r2 with
          | bad a c =>
            rw [hq] at J
            have HE := Lib.hid (HS6.out.trans (bind_bad hq)); clear hq
            go_wp2_with fail
            refine J.out.mono ?_
            rintro e wz ⟨rfl, ⟨r'', dp', h1, h2, h3, h4⟩, h5⟩
            exact ⟨rfl, FB.out _ _ _ _ _ HE.out h1 h2 h3 h4 (HO6.out.trans h5)⟩
          | ok sub r4 =>
            rw [hq] at J
            have HS7 := Lib.hid (HS6.out.trans (bind_ok hq)); clear hq HS6
            go_wp2_with fail
            refine J.out.mono ?_
            rintro e w7 ⟨v, rfl, hv, h4, o4⟩
            have hsz7 : B ≤ w6.heap.size := by have := (Array.getElem?_eq_some_iff.1 HR6.out).1; omega
            have hsy7 : Y < w6.heap.size := (Array.getElem?_eq_some_iff.1 HY6.out).1
            have hv := CellAt.weaken (G' := fun q => Y < q) (fun q _ h => by have h : w6.heap.size ≤ q := h; show Y < q; omega) _ _ hv
            obtain ⟨ar7, cr7, er7⟩ := row_form hv
            rw [List.length_map] at er7
            subst er7
            have hv : CellAt w7 (fun q => Y < q) (.row 7 (sub.map selC)) (.slice ar7 sub.length cr7) := hv
            have HP7 := Lib.hid hv; clear hv
            have hr7 := (o4.block B (Array.getElem?_eq_some_iff.1 HR6.out).1 (by omega)).trans HR6.out
            have HR7 := Lib.hid hr7
            have hy7 := (o4.block Y (Array.getElem?_eq_some_iff.1 HY6.out).1 (by omega)).trans HY6.out
            have HY7 := Lib.hid hy7
            have HO7 := Lib.hid (HO6.out.trans' o4 (fun q hq e => by exact e))
            clear hr7 hy7
            have H7 := Lib.hid h4; clear h4 o4 J
            clear HR6 HO6 H6 HY6
            obtain ⟨y0, y1, y2, y3, yz⟩ := boxN4 HY7.out
            go_upto_region 9 with (fail)
            clear y0 y1 y2 y3 yz
            have hy8 := heap_set (o := 3) HY7.out (.slice ar7 sub.length cr7)
            have hy8 : (w7.setCell ⟨Y, 3, none⟩ (.slice ar7 sub.length cr7)).heap[Y]? = some (.cells #[.bool true, .string ⟨s.toArray⟩, .slice none 0 0, .slice ar7 sub.length cr7] 39 (0, 0)) := by simpa using hy8
            have os8 : Only (fun k => k = Y) w7 (w7.setCell ⟨Y, 3, none⟩ (.slice ar7 sub.length cr7)) := (Only.refl (fun k => k = Y) _).setCell (p := ⟨Y, 3, none⟩) (.inl rfl) _
            obtain ⟨w8, hw8⟩ : ∃ x, w7.setCell ⟨Y, 3, none⟩ (.slice ar7 sub.length cr7) = x := ⟨_, rfl⟩
            rw [hw8] at hy8 os8
            rw [hw8]
            clear hw8
            have HY8 := Lib.hid hy8
            have H8 := Lib.hid (H7.out.only os8 (fun k hk e => by omega)); have HS8 := HS7
            have HF8_3 := Lib.hid (CellAt.only os8 (fun k hk e => by omega) _ _ HP7.out)
            have hr8 := (os8.block B (Array.getElem?_eq_some_iff.1 HR7.out).1 (by omega)).trans HR7.out
            have HR8 := Lib.hid hr8
            have HO8 := Lib.hid (HO7.out.trans' os8 (fun q hq e => by have e : q = Y := e; have := HWB.out; omega))
            clear hr8
            clear HP7
            clear hy8 os8 HS7
            clear HR7 HO7 H7 HY7
            obtain ⟨y0, y1, y2, y3, yz⟩ := boxN4 HY8.out
            go_wp2_with ((refine wpList_store_box (o := ⟨none, _, _, _, _, _⟩) rfl 39 (.tmp 2) (.tmp 27) (by rfl) B [.bool false, .string ⟨#[]⟩, .slice none 0 0, .slice none 0 0] [.bool true, .string ⟨s.toArray⟩, .slice none 0 0, .slice ar7 sub.length cr7] (by rfl) (by rfl) HR8.out (by rfl) (by kernel_rfl) (by intro u hu; simp at hu; rcases hu with rfl | rfl | rfl | rfl <;> rfl) ?_; intro w9 k1 k2))
            clear y0 y1 y2 y3 yz
            obtain ⟨y0, y1, y2, y3, -⟩ := boxN4 k1
            have hf3 := CellAt.weaken (G' := fun q => B ≤ q) (fun q _ h => by have h : Y < q := h; show B ≤ q; omega) _ _ (CellAt.only k2 (fun k hk e => by omega) _ _ HF8_3.out)
            exact bodyPost_ret (v := .agg #[.bool true, .string ⟨s.toArray⟩, .slice none 0 0, .slice ar7 sub.length cr7]) (by simp [results, Tryd.results31, go_sem, y0, y1, y2, y3]) rfl (FO.out (⟨true, s, [], sub⟩) _ w9 _ HS8.out ⟨_, rfl, CellsAt.lit rfl (CellsAt.lit rfl (CellsAt.cons (CellAt.nilRow _ _ _) (CellsAt.cons hf3 (CellsAt.nil _ _))))⟩ (H8.out.only k2 (fun k hk e => by omega)) (HO8.out.trans' k2 (fun q hq e => by have := HWB.out; omega)))
    ·
      go_wp2_with fail
      refine J.out.mono ?_
      rintro e w3 ⟨rfl, o4⟩
      have hr3 := (o4.block B (Array.getElem?_eq_some_iff.1 HR2.out).1 (fun h => h)).trans HR2.out
      have HR3 := Lib.hid hr3
      have hy3 := (o4.block Y (Array.getElem?_eq_some_iff.1 HY2.out).1 (fun h => h)).trans HY2.out
      have HY3 := Lib.hid hy3
      have HO3 := Lib.hid (HO2.out.trans' o4 (fun q hq e => by exact e.elim))
      clear hr3 hy3
      have H3 := Lib.hid (H2.out.still o4); clear o4 J
      have HS3 := Lib.hid (HS2.out.trans (bind_ok (if_neg (by rw [HBT3.out]; decide))))
      clear HS2
      clear HR2 HO2 H2 HY2
      have J := Lib.hid (is_any b all r.tail dp [40] w3 H3.out)
      obtain ⟨bb4, hb4⟩ : ∃ x, isS [40] r.tail = x := ⟨_, rfl⟩
      rw [hb4] at J
      have HBT4 := Lib.hid hb4; clear hb4
      cases bb4
      rotate_left
      ·
        go_wp2_with fail
        refine J.out.mono ?_
        rintro e w4 ⟨rfl, o4⟩
        have hr4 := (o4.block B (Array.getElem?_eq_some_iff.1 HR3.out).1 (fun h => h)).trans HR3.out
        have HR4 := Lib.hid hr4
        have hy4 := (o4.block Y (Array.getElem?_eq_some_iff.1 HY3.out).1 (fun h => h)).trans HY3.out
        have HY4 := Lib.hid hy4
        have HO4 := Lib.hid (HO3.out.trans' o4 (fun q hq e => by exact e.elim))
        clear hr4 hy4
        have H4 := Lib.hid (H3.out.still o4); clear o4 J
        have HS4 := HS3
        clear HS3
        clear HR3 HO3 H3 HY3
        have hmf : ∀ (fn : Fn) (first cap : Array Value) (w : World), (Instr.makeFunc fn first cap).run Tryd.prog w = .ok (.func fn first cap) w := fun _ _ _ _ => rfl
        have J := Lib.hid (KCM.out (r.tail) w4 H4.out HBT4.out)
        cases hq : manyP varP [41] (r.tail.length + 1) [] r.tail.tail with
        | bad a c =>
          rw [hq] at J
          have HE := Lib.hid (HS4.out.trans (bind_bad ((if_pos HBT4.out).trans hq))); clear hq
          go_wp2_with fail
          refine J.out.mono ?_
          rintro e wz ⟨rfl, ⟨r'', dp', h1, h2, h3, h4⟩, h5⟩
          exact ⟨rfl, FB.out _ _ _ _ _ HE.out h1 h2 h3 h4 (HO4.out.trans h5)⟩
        | ok vs r3 =>
          rw [hq] at J
          have HS5 := Lib.hid (HS4.out.trans (bind_ok ((if_pos HBT4.out).trans hq))); clear hq HS4
          go_wp2_with fail
          refine J.out.mono ?_
          rintro e w5 ⟨v, rfl, hv, h4, o4⟩
          have hsz5 : B ≤ w4.heap.size := by have := (Array.getElem?_eq_some_iff.1 HR4.out).1; omega
          have hsy5 : Y < w4.heap.size := (Array.getElem?_eq_some_iff.1 HY4.out).1
          have hv := CellAt.weaken (G' := fun q => Y < q) (fun q _ h => by have h : w4.heap.size ≤ q := h; show Y < q; omega) _ _ hv
          obtain ⟨ar5, cr5, er5⟩ := row_form hv
          rw [List.length_map] at er5
          subst er5
          have hv : CellAt w5 (fun q => Y < q) (.row 10 (vs.map vdC)) (.slice ar5 vs.length cr5) := hv
          have HP5 := Lib.hid hv; clear hv
          have hr5 := (o4.block B (Array.getElem?_eq_some_iff.1 HR4.out).1 (by omega)).trans HR4.out
          have HR5 := Lib.hid hr5
          have hy5 := (o4.block Y (Array.getElem?_eq_some_iff.1 HY4.out).1 (by omega)).trans HY4.out
          have HY5 := Lib.hid hy5
          have HO5 := Lib.hid (HO4.out.trans' o4 (fun q hq e => by exact e))
          clear hr5 hy5
          have H5 := Lib.hid h4; clear h4 o4 J
          clear HR4 HO4 H4 HY4
          obtain ⟨y0, y1, y2, y3, yz⟩ := boxN4 HY5.out
          go_upto_region 8 with (fail)
          clear y0 y1 y2 y3 yz
          have hy6 := heap_set (o := 2) HY5.out (.slice ar5 vs.length cr5)
          have hy6 : (w5.setCell ⟨Y, 2, none⟩ (.slice ar5 vs.length cr5)).heap[Y]? = some (.cells #[.bool true, .string ⟨#[]⟩, .slice ar5 vs.length cr5, .slice none 0 0] 39 (0, 0)) := by simpa using hy6
          have os6 : Only (fun k => k = Y) w5 (w5.setCell ⟨Y, 2, none⟩ (.slice ar5 vs.length cr5)) := (Only.refl (fun k => k = Y) _).setCell (p := ⟨Y, 2, none⟩) (.inl rfl) _
          obtain ⟨w6, hw6⟩ : ∃ x, w5.setCell ⟨Y, 2, none⟩ (.slice ar5 vs.length cr5) = x := ⟨_, rfl⟩
          rw [hw6] at hy6 os6
          rw [hw6]
          clear hw6
          have HY6 := Lib.hid hy6
          have H6 := Lib.hid (H5.out.only os6 (fun k hk e => by omega)); have HS6 := HS5
          have HF6_2 := Lib.hid (CellAt.only os6 (fun k hk e => by omega) _ _ HP5.out)
          have hr6 := (os6.block B (Array.getElem?_eq_some_iff.1 HR5.out).1 (by omega)).trans HR5.out
          have HR6 := Lib.hid hr6
          have HO6 := Lib.hid (HO5.out.trans' os6 (fun q hq e => by have e : q = Y := e; have := HWB.out; omega))
          clear hr6
          clear HP5
          clear hy6 os6 HS5
          clear HR5 HO5 H5 HY5
          have J := Lib.hid (KCS.out r3 w6 H6.out)
          cases hq : setP 24 r3 with
          | bad a c =>
            rw [hq] at J
            have HE := Lib.hid (HS6.out.trans (bind_bad hq)); clear hq
            go_wp2_with fail
            refine J.out.mono ?_
            rintro e wz ⟨rfl, ⟨r'', dp', h1, h2, h3, h4⟩, h5⟩
            exact ⟨rfl, FB.out _ _ _ _ _ HE.out h1 h2 h3 h4 (HO6.out.trans h5)⟩
          | ok sub r4 =>
            rw [hq] at J
            have HS7 := Lib.hid (HS6.out.trans (bind_ok hq)); clear hq HS6
            go_wp2_with fail
            refine J.out.mono ?_
            rintro e w7 ⟨v, rfl, hv, h4, o4⟩
            have hsz7 : B ≤ w6.heap.size := by have := (Array.getElem?_eq_some_iff.1 HR6.out).1; omega
            have hsy7 : Y < w6.heap.size := (Array.getElem?_eq_some_iff.1 HY6.out).1
            have hv := CellAt.weaken (G' := fun q => Y < q) (fun q _ h => by have h : w6.heap.size ≤ q := h; show Y < q; omega) _ _ hv
            obtain ⟨ar7, cr7, er7⟩ := row_form hv
            rw [List.length_map] at er7
            subst er7
            have hv : CellAt w7 (fun q => Y < q) (.row 7 (sub.map selC)) (.slice ar7 sub.length cr7) := hv
            have HP7 := Lib.hid hv; clear hv
            have hr7 := (o4.block B (Array.getElem?_eq_some_iff.1 HR6.out).1 (by omega)).trans HR6.out
            have HR7 := Lib.hid hr7
            have hy7 := (o4.block Y (Array.getElem?_eq_some_iff.1 HY6.out).1 (by omega)).trans HY6.out
            have HY7 := Lib.hid hy7
            have HF7_2 := Lib.hid (CellAt.only o4 (fun k hk e => by omega) _ _ HF6_2.out)
            have HO7 := Lib.hid (HO6.out.trans' o4 (fun q hq e => by exact e))
            clear hr7 hy7
            have H7 := Lib.hid h4; clear h4 o4 J
            clear HR6 HO6 H6 HY6 HF6_2
            obtain ⟨y0, y1, y2, y3, yz⟩ := boxN4 HY7.out
            go_upto_region 9 with (fail)
            clear y0 y1 y2 y3 yz
            have hy8 := heap_set (o := 3) HY7.out (.slice ar7 sub.length cr7)
            have hy8 : (w7.setCell ⟨Y, 3, none⟩ (.slice ar7 sub.length cr7)).heap[Y]? = some (.cells #[.bool true, .string ⟨#[]⟩, .slice ar5 vs.length cr5, .slice ar7 sub.length cr7] 39 (0, 0)) := by simpa using hy8
            have os8 : Only (fun k => k = Y) w7 (w7.setCell ⟨Y, 3, none⟩ (.slice ar7 sub.length cr7)) := (Only.refl (fun k => k = Y) _).setCell (p := ⟨Y, 3, none⟩) (.inl rfl) _
            obtain ⟨w8, hw8⟩ : ∃ x, w7.setCell ⟨Y, 3, none⟩ (.slice ar7 sub.length cr7) = x := ⟨_, rfl⟩
            rw [hw8] at hy8 os8
            rw [hw8]
            clear hw8
            have HY8 := Lib.hid hy8
            have H8 := Lib.hid (H7.out.only os8 (fun k hk e => by omega)); have HS8 := HS7
            have HF8_3 := Lib.hid (CellAt.only os8 (fun k hk e => by omega) _ _ HP7.out)
            have hr8 := (os8.block B (Array.getElem?_eq_some_iff.1 HR7.out).1 (by omega)).trans HR7.out
            have HR8 := Lib.hid hr8
            have HF8_2 := Lib.hid (CellAt.only os8 (fun k hk e => by omega) _ _ HF7_2.out)
            have HO8 := Lib.hid (HO7.out.trans' os8 (fun q hq e => by have e : q = Y := e; have := HWB.out; omega))
            clear hr8
            clear HP7
            clear hy8 os8 HS7
            clear HR7 HO7 H7 HY7 HF7_2
            obtain ⟨y0, y1, y2, y3, yz⟩ := boxN4 HY8.out
            go_wp2_with ((refine wpList_store_box (o := ⟨none, _, _, _, _, _⟩) rfl 39 (.tmp 2) (.tmp 27) (by rfl) B [.bool false, .string ⟨#[]⟩, .slice none 0 0, .slice none 0 0] [.bool true, .string ⟨#[]⟩, .slice ar5 vs.length cr5, .slice ar7 sub.length cr7] (by rfl) (by rfl) HR8.out (by rfl) (by kernel_rfl) (by intro u hu; simp at hu; rcases hu with rfl | rfl | rfl | rfl <;> rfl) ?_; intro w9 k1 k2))
            clear y0 y1 y2 y3 yz
            obtain ⟨y0, y1, y2, y3, -⟩ := boxN4 k1
            have hf2 := CellAt.weaken (G' := fun q => B ≤ q) (fun q _ h => by have h : Y < q := h; show B ≤ q; omega) _ _ (CellAt.only k2 (fun k hk e => by omega) _ _ HF8_2.out)
            have hf3 := CellAt.weaken (G' := fun q => B ≤ q) (fun q _ h => by have h : Y < q := h; show B ≤ q; omega) _ _ (CellAt.only k2 (fun k hk e => by omega) _ _ HF8_3.out)
            exact bodyPost_ret (v := .agg #[.bool true, .string ⟨#[]⟩, .slice ar5 vs.length cr5, .slice ar7 sub.length cr7]) (by simp [results, Tryd.results31, go_sem, y0, y1, y2, y3]) rfl (FO.out (⟨true, [], vs, sub⟩) _ w9 _ HS8.out ⟨_, rfl, CellsAt.lit rfl (CellsAt.lit rfl (CellsAt.cons hf2 (CellsAt.cons hf3 (CellsAt.nil _ _))))⟩ (H8.out.only k2 (fun k hk e => by omega)) (HO8.out.trans' k2 (fun q hq e => by have := HWB.out; omega)))
      ·
        go_wp2_with fail
        refine J.out.mono ?_
        rintro e w4 ⟨rfl, o4⟩
        have hr4 := (o4.block B (Array.getElem?_eq_some_iff.1 HR3.out).1 (fun h => h)).trans HR3.out
        have HR4 := Lib.hid hr4
        have hy4 := (o4.block Y (Array.getElem?_eq_some_iff.1 HY3.out).1 (fun h => h)).trans HY3.out
        have HY4 := Lib.hid hy4
        have HO4 := Lib.hid (HO3.out.trans' o4 (fun q hq e => by exact e.elim))
        clear hr4 hy4
        have H4 := Lib.hid (H3.out.still o4); clear o4 J
        have HS4 := Lib.hid (HS3.out.trans (bind_ok (if_neg (by rw [HBT4.out]; decide))))
        clear HS3
        clear HR3 HO3 H3 HY3
        have J := Lib.hid (KCS.out (r.tail) w4 H4.out)
        cases hq : setP 24 (r.tail) with
        | bad a c =>
          rw [hq] at J
          have HE := Lib.hid (HS4.out.trans (bind_bad hq)); clear hq
          go_wp2_with fail
          refine J.out.mono ?_
          rintro e wz ⟨rfl, ⟨r'', dp', h1, h2, h3, h4⟩, h5⟩
          exact ⟨rfl, FB.out _ _ _ _ _ HE.out h1 h2 h3 h4 (HO4.out.trans h5)⟩
        | ok sub r4 =>
          rw [hq] at J
          have HS5 := Lib.hid (HS4.out.trans (bind_ok hq)); clear hq HS4
          go_wp2_with fail
          refine J.out.mono ?_
          rintro e w5 ⟨v, rfl, hv, h4, o4⟩
          have hsz5 : B ≤ w4.heap.size := by have := (Array.getElem?_eq_some_iff.1 HR4.out).1; omega
          have hsy5 : Y < w4.heap.size := (Array.getElem?_eq_some_iff.1 HY4.out).1
          have hv := CellAt.weaken (G' := fun q => Y < q) (fun q _ h => by have h : w4.heap.size ≤ q := h; show Y < q; omega) _ _ hv
          obtain ⟨ar5, cr5, er5⟩ := row_form hv
          rw [List.length_map] at er5
          subst er5
          have hv : CellAt w5 (fun q => Y < q) (.row 7 (sub.map selC)) (.slice ar5 sub.length cr5) := hv
          have HP5 := Lib.hid hv; clear hv
          have hr5 := (o4.block B (Array.getElem?_eq_some_iff.1 HR4.out).1 (by omega)).trans HR4.out
          have HR5 := Lib.hid hr5
          have hy5 := (o4.block Y (Array.getElem?_eq_some_iff.1 HY4.out).1 (by omega)).trans HY4.out
          have HY5 := Lib.hid hy5
          have HO5 := Lib.hid (HO4.out.trans' o4 (fun q hq e => by exact e))
          clear hr5 hy5
          have H5 := Lib.hid h4; clear h4 o4 J
          clear HR4 HO4 H4 HY4
          obtain ⟨y0, y1, y2, y3, yz⟩ := boxN4 HY5.out
          go_upto_region 9 with (fail)
          clear y0 y1 y2 y3 yz
          have hy6 := heap_set (o := 3) HY5.out (.slice ar5 sub.length cr5)
          have hy6 : (w5.setCell ⟨Y, 3, none⟩ (.slice ar5 sub.length cr5)).heap[Y]? = some (.cells #[.bool true, .string ⟨#[]⟩, .slice none 0 0, .slice ar5 sub.length cr5] 39 (0, 0)) := by simpa using hy6
          have os6 : Only (fun k => k = Y) w5 (w5.setCell ⟨Y, 3, none⟩ (.slice ar5 sub.length cr5)) := (Only.refl (fun k => k = Y) _).setCell (p := ⟨Y, 3, none⟩) (.inl rfl) _
          obtain ⟨w6, hw6⟩ : ∃ x, w5.setCell ⟨Y, 3, none⟩ (.slice ar5 sub.length cr5) = x := ⟨_, rfl⟩
          rw [hw6] at hy6 os6
          rw [hw6]
          clear hw6
          have HY6 := Lib.hid hy6
          have H6 := Lib.hid (H5.out.only os6 (fun k hk e => by omega)); have HS6 := HS5
          have HF6_3 := Lib.hid (CellAt.only os6 (fun k hk e => by omega) _ _ HP5.out)
          have hr6 := (os6.block B (Array.getElem?_eq_some_iff.1 HR5.out).1 (by omega)).trans HR5.out
          have HR6 := Lib.hid hr6
          have HO6 := Lib.hid (HO5.out.trans' os6 (fun q hq e => by have e : q = Y := e; have := HWB.out; omega))
          clear hr6
          clear HP5
          clear hy6 os6 HS5
          clear HR5 HO5 H5 HY5
          obtain ⟨y0, y1, y2, y3, yz⟩ := boxN4 HY6.out
          go_wp2_with ((refine wpList_store_box (o := ⟨none, _, _, _, _, _⟩) rfl 39 (.tmp 2) (.tmp 27) (by rfl) B [.bool false, .string ⟨#[]⟩, .slice none 0 0, .slice none 0 0] [.bool true, .string ⟨#[]⟩, .slice none 0 0, .slice ar5 sub.length cr5] (by rfl) (by rfl) HR6.out (by rfl) (by kernel_rfl) (by intro u hu; simp at hu; rcases hu with rfl | rfl | rfl | rfl <;> rfl) ?_; intro w9 k1 k2))
          clear y0 y1 y2 y3 yz
          obtain ⟨y0, y1, y2, y3, -⟩ := boxN4 k1
          have hf3 := CellAt.weaken (G' := fun q => B ≤ q) (fun q _ h => by have h : Y < q := h; show B ≤ q; omega) _ _ (CellAt.only k2 (fun k hk e => by omega) _ _ HF6_3.out)
          exact bodyPost_ret (v := .agg #[.bool true, .string ⟨#[]⟩, .slice none 0 0, .slice ar5 sub.length cr5]) (by simp [results, Tryd.results31, go_sem, y0, y1, y2, y3]) rfl (FO.out (⟨true, [], [], sub⟩) _ w9 _ HS6.out ⟨_, rfl, CellsAt.lit rfl (CellsAt.lit rfl (CellsAt.cons (CellAt.nilRow _ _ _) (CellsAt.cons hf3 (CellsAt.nil _ _))))⟩ (H6.out.only k2 (fun k hk e => by omega)) (HO6.out.trans' k2 (fun q hq e => by have := HWB.out; omega)))
  ·
    rw [if_neg (by decide)] at J
    go_wp2_with fail
    refine J.out.mono ?_
    rintro e w1 ⟨rfl, h4, o4⟩
    have hr1 := (o4.block B (Array.getElem?_eq_some_iff.1 HR0.out).1 (by omega)).trans HR0.out
    have HR1 := Lib.hid hr1
    have HO1 := Lib.hid (HO0.out.trans' o4 (fun q hq e => by exact e))
    clear hr1
    have H1 := Lib.hid h4; clear h4 o4 J
    have HS1 := HS0
    clear HS0
    clear HR0 HO0 H0
    have hsz2 : B < w1.heap.size := (Array.getElem?_eq_some_iff.1 HR1.out).1
    obtain ⟨Y, hY⟩ : ∃ Y, w1.heap.size = Y := ⟨_, rfl⟩
    obtain ⟨w2, hw2⟩ : ∃ x, w1.alloc (.cells #[.bool false, .string ⟨#[]⟩, .slice none 0 0, .slice none 0 0] 39) = x := ⟨_, rfl⟩
    have hy2 : w2.heap[Y]? = some (.cells #[.bool false, .string ⟨#[]⟩, .slice none 0 0, .slice none 0 0] 39 (0, 0)) := by rw [← hw2, ← hY]; exact heap_new _ _
    have hr2 : w2.heap[B]? = some (.cells #[.bool false, .string ⟨#[]⟩, .slice none 0 0, .slice none 0 0] 39 (0, 0)) := by rw [← hw2]; exact heap_old HR1.out _
    have oa2 : Only (fun _ => False) w1 w2 := by rw [← hw2]; exact (Only.refl _ _).alloc _
    rw [hY] at hsz2
    have HY2 := Lib.hid hy2; have HR2 := Lib.hid hr2; have H2 := Lib.hid (H1.out.still oa2); have HO2 := Lib.hid (HO1.out.trans' oa2 (fun q _ e => e.elim)); have HW2 := Lib.hid hw2; have HYY := Lib.hid hY; have HS2 := HS1
    clear hy2 hr2 hw2 hY oa2 HR1 H1 HO1 HS1
    go_upto_region 2 with (fail)
    rw [HYY.out, HW2.out]
    clear HYY HW2
    obtain ⟨y0, y1, y2, y3, yz⟩ := boxN4 HY2.out
    go_upto_region 3 with (fail)
    clear y0 y1 y2 y3 yz
    have J := Lib.hid (want_any b all r dp wQuery w2 H2.out)
    cases hq : wantP wQuery r with
    | bad a c =>
      rw [hq] at J
      have HE := Lib.hid (HS2.out.trans (bind_bad ((if_neg (by rw [HBT1.out]; decide)).trans (bind_bad hq)))); clear hq
      go_wp2_with fail
      refine J.out.mono ?_
      rintro e wz ⟨rfl, ⟨r'', dp', h1, h2, h3, h4⟩, h5⟩
      exact ⟨rfl, FB.out _ _ _ _ _ HE.out h1 h2 h3 h4 (HO2.out.trans h5)⟩
    | ok u r1 =>
      rw [hq] at J
      have HS3 := Lib.hid (HS2.out.trans (bind_ok ((if_neg (by rw [HBT1.out]; decide)).trans (bind_ok hq)))); clear hq HS2
      go_wp2_with fail
      refine J.out.mono ?_
      rintro e w3 ⟨v, rfl, hv, h4, o4⟩
      have hv : v = .tuple #[] := hv
      subst hv
      have hr3 := (o4.block B (Array.getElem?_eq_some_iff.1 HR2.out).1 (by omega)).trans HR2.out
      have HR3 := Lib.hid hr3
      have hy3 := (o4.block Y (Array.getElem?_eq_some_iff.1 HY2.out).1 (by omega)).trans HY2.out
      have HY3 := Lib.hid hy3
      have HO3 := Lib.hid (HO2.out.trans' o4 (fun q hq e => by exact e))
      clear hr3 hy3
      have H3 := Lib.hid h4; clear h4 o4 J
      clear HR2 HO2 H2 HY2
      have J := Lib.hid (kind_any b all r1 dp 1 w3 H3.out (by decide))
      obtain ⟨bb4, hb4⟩ : ∃ x, isK 1 r1 = x := ⟨_, rfl⟩
      rw [hb4] at J
      have HBT4 := Lib.hid hb4; clear hb4
      cases bb4
      rotate_left
      ·
        go_wp2_with fail
        refine J.out.mono ?_
        rintro e w4 ⟨rfl, o4⟩
        have hr4 := (o4.block B (Array.getElem?_eq_some_iff.1 HR3.out).1 (fun h => h)).trans HR3.out
        have HR4 := Lib.hid hr4
        have hy4 := (o4.block Y (Array.getElem?_eq_some_iff.1 HY3.out).1 (fun h => h)).trans HY3.out
        have HY4 := Lib.hid hy4
        have HO4 := Lib.hid (HO3.out.trans' o4 (fun q hq e => by exact e.elim))
        clear hr4 hy4
        have H4 := Lib.hid (H3.out.still o4); clear o4 J
        have HS4 := HS3
        clear HS3
        clear HR3 HO3 H3 HY3
        have J := Lib.hid (name_any b all (r1) dp w4 H4.out)
        cases hq : nameP r1 with
        | bad a c =>
          rw [hq] at J
          have HE := Lib.hid (HS4.out.trans (bind_bad ((if_pos HBT4.out).trans hq))); clear hq
          go_wp2_with fail
          refine J.out.mono ?_
          rintro e wz ⟨rfl, ⟨r'', dp', h1, h2, h3, h4⟩, h5⟩
          exact ⟨rfl, FB.out _ _ _ _ _ HE.out h1 h2 h3 h4 (HO4.out.trans h5)⟩
        | ok s r2 =>
          rw [hq] at J
          have HS5 := Lib.hid (HS4.out.trans (bind_ok ((if_pos HBT4.out).trans hq))); clear hq HS4
          go_wp2_with fail
          refine J.out.mono ?_
          rintro e w5 ⟨v, rfl, hv, h4, o4⟩
          have hv : v = .string ⟨s.toArray⟩ := hv
          subst hv
          have hr5 := (o4.block B (Array.getElem?_eq_some_iff.1 HR4.out).1 (by omega)).trans HR4.out
          have HR5 := Lib.hid hr5
          have hy5 := (o4.block Y (Array.getElem?_eq_some_iff.1 HY4.out).1 (by omega)).trans HY4.out
          have HY5 := Lib.hid hy5
          have HO5 := Lib.hid (HO4.out.trans' o4 (fun q hq e => by exact e))
          clear hr5 hy5
          have H5 := Lib.hid h4; clear h4 o4 J
          clear HR4 HO4 H4 HY4
          obtain ⟨y0, y1, y2, y3, yz⟩ := boxN4 HY5.out
          go_upto_region 6 with (fail)
          clear y0 y1 y2 y3 yz
          have hy6 := heap_set (o := 1) HY5.out (.string ⟨s.toArray⟩)
          have hy6 : (w5.setCell ⟨Y, 1, none⟩ (.string ⟨s.toArray⟩)).heap[Y]? = some (.cells #[.bool false, .string ⟨s.toArray⟩, .slice none 0 0, .slice none 0 0] 39 (0, 0)) := by simpa using hy6
          have os6 : Only (fun k => k = Y) w5 (w5.setCell ⟨Y, 1, none⟩ (.string ⟨s.toArray⟩)) := (Only.refl (fun k => k = Y) _).setCell (p := ⟨Y, 1, none⟩) (.inl rfl) _
          obtain ⟨w6, hw6⟩ : ∃ x, w5.setCell ⟨Y, 1, none⟩ (.string ⟨s.toArray⟩) = x := ⟨_, rfl⟩
          rw [hw6] at hy6 os6
          rw [hw6]
          clear hw6
          have HY6 := Lib.hid hy6
          have H6 := Lib.hid (H5.out.only os6 (fun k hk e => by omega)); have HS6 := HS5
          have hr6 := (os6.block B (Array.getElem?_eq_some_iff.1 HR5.out).1 (by omega)).trans HR5.out
          have HR6 := Lib.hid hr6
          have HO6 := Lib.hid (HO5.out.trans' os6 (fun q hq e => by have e : q = Y := e; have := HWB.out; omega))
          clear hr6
          clear hy6 os6 HS5
          clear HR5 HO5 H5 HY5
          have J := Lib.hid (is_any b all r2 dp [40] w6 H6.out)
          obtain ⟨bb7, hb7⟩ : ∃ x, isS [40] r2 = x := ⟨_, rfl⟩
          rw [hb7] at J
          have HBT7 := Lib.hid hb7; clear hb7
          cases bb7
          rotate_left
          ·
            go_wp2_with fail
            refine J.out.mono ?_
            rintro e w7 ⟨rfl, o4⟩
            have hr7 := (o4.block B (Array.getElem?_eq_some_iff.1 HR6.out).1 (fun h => h)).trans HR6.out
            have HR7 := Lib.hid hr7
            have hy7 := (o4.block Y (Array.getElem?_eq_some_iff.1 HY6.out).1 (fun h => h)).trans HY6.out
            have HY7 := Lib.hid hy7
            have HO7 := Lib.hid (HO6.out.trans' o4 (fun q hq e => by exact e.elim))
            clear hr7 hy7
            have H7 := Lib.hid (H6.out.still o4); clear o4 J
            have HS7 := HS6
            clear HS6
            clear HR6 HO6 H6 HY6
            have hmf : ∀ (fn : Fn) (first cap : Array Value) (w : World), (Instr.makeFunc fn first cap).run Tryd.prog w = .ok (.func fn first cap) w := fun _ _ _ _ => rfl
            have J := Lib.hid (KCM.out r2 w7 H7.out HBT7.out)
            cases hq : manyP varP [41] (r2.length + 1) [] r2.tail with
            | bad a c =>
              rw [hq] at J
              have HE := Lib.hid (HS7.out.trans (bind_bad ((if_pos HBT7.out).trans hq))); clear hq
              go_wp2_with fail
              refine J.out.mono ?_
              rintro e wz ⟨rfl, ⟨r'', dp', h1, h2, h3, h4⟩, h5⟩
              exact ⟨rfl, FB.out _ _ _ _ _ HE.out h1 h2 h3 h4 (HO7.out.trans h5)⟩
            | ok vs r3 =>
              rw [hq] at J
              have HS8 := Lib.hid (HS7.out.trans (bind_ok ((if_pos HBT7.out).trans hq))); clear hq HS7
              go_wp2_with fail
              refine J.out.mono ?_
              rintro e w8 ⟨v, rfl, hv, h4, o4⟩
              have hsz8 : B ≤ w7.heap.size := by have := (Array.getElem?_eq_some_iff.1 HR7.out).1; omega
              have hsy8 : Y < w7.heap.size := (Array.getElem?_eq_some_iff.1 HY7.out).1
              have hv := CellAt.weaken (G' := fun q => Y < q) (fun q _ h => by have h : w7.heap.size ≤ q := h; show Y < q; omega) _ _ hv
              obtain ⟨ar8, cr8, er8⟩ := row_form hv
              rw [List.length_map] at er8
              subst er8
              have hv : CellAt w8 (fun q => Y < q) (.row 10 (vs.map vdC)) (.slice ar8 vs.length cr8) := hv
              have HP8 := Lib.hid hv; clear hv
              have hr8 := (o4.block B (Array.getElem?_eq_some_iff.1 HR7.out).1 (by omega)).trans HR7.out
              have HR8 := Lib.hid hr8
              have hy8 := (o4.block Y (Array.getElem?_eq_some_iff.1 HY7.out).1 (by omega)).trans HY7.out
              have HY8 := Lib.hid hy8
              have HO8 := Lib.hid (HO7.out.trans' o4 (fun q hq e => by exact e))
              clear hr8 hy8
              have H8 := Lib.hid h4; clear h4 o4 J
              clear HR7 HO7 H7 HY7
              obtain ⟨y0, y1, y2, y3, yz⟩ := boxN4 HY8.out
              go_upto_region 8 with (fail)
              clear y0 y1 y2 y3 yz
              have hy9 := heap_set (o := 2) HY8.out (.slice ar8 vs.length cr8)
              have hy9 : (w8.setCell ⟨Y, 2, none⟩ (.slice ar8 vs.length cr8)).heap[Y]? = some (.cells #[.bool false, .string ⟨s.toArray⟩, .slice ar8 vs.length cr8, .slice none 0 0] 39 (0, 0)) := by simpa using hy9
              have os9 : Only (fun k => k = Y) w8 (w8.setCell ⟨Y, 2, none⟩ (.slice ar8 vs.length cr8)) := (Only.refl (fun k => k = Y) _).setCell (p := ⟨Y, 2, none⟩) (.inl rfl) _
              obtain ⟨w9, hw9⟩ : ∃ x, w8.setCell ⟨Y, 2, none⟩ (.slice ar8 vs.length cr8) = x := ⟨_, rfl⟩
              rw [hw9] at hy9 os9
              rw [hw9]
              clear hw9
              have HY9 := Lib.hid hy9
              have H9 := Lib.hid (H8.out.only os9 (fun k hk e => by omega)); have HS9 := HS8
              have HF9_2 := Lib.hid (CellAt.only os9 (fun k hk e => by omega) _ _ HP8.out)
              have hr9 := (os9.block B (Array.getElem?_eq_some_iff.1 HR8.out).1 (by omega)).trans HR8.out
              have HR9 := Lib.hid hr9
              have HO9 := Lib.hid (HO8.out.trans' os9 (fun q hq e => by have e : q = Y := e; have := HWB.out; omega))
              clear hr9
              clear HP8
              clear hy9 os9 HS8
              clear HR8 HO8 H8 HY8
              have J := Lib.hid (KCS.out r3 w9 H9.out)
              cases hq : setP 24 r3 with
              | bad a c =>
                rw [hq] at J
                have HE := Lib.hid (HS9.out.trans (bind_bad hq)); clear hq
                go_wp2_with fail
                refine J.out.mono ?_
                rintro e wz ⟨rfl, ⟨r'', dp', h1, h2, h3, h4⟩, h5⟩
                exact ⟨rfl, FB.out _ _ _ _ _ HE.out h1 h2 h3 h4 (HO9.out.trans h5)⟩
              | ok sub r4 =>
                rw [hq] at J
                have HS10 := Lib.hid (HS9.out.trans (bind_ok hq)); clear hq HS9
                go_wp2_with fail
                refine J.out.mono ?_
                rintro e w10 ⟨v, rfl, hv, h4, o4⟩
                have hsz10 : B ≤ w9.heap.size := by have := (Array.getElem?_eq_some_iff.1 HR9.out).1; omega
                have hsy10 : Y < w9.heap.size := (Array.getElem?_eq_some_iff.1 HY9.out).1
                have hv := CellAt.weaken (G' := fun q => Y < q) (fun q _ h => by have h : w9.heap.size ≤ q := h; show Y < q; omega) _ _ hv
                obtain ⟨ar10, cr10, er10⟩ := row_form hv
                rw [List.length_map] at er10
                subst er10
                have hv : CellAt w10 (fun q => Y < q) (.row 7 (sub.map selC)) (.slice ar10 sub.length cr10) := hv
                have HP10 := Lib.hid hv; clear hv
                have hr10 := (o4.block B (Array.getElem?_eq_some_iff.1 HR9.out).1 (by omega)).trans HR9.out
                have HR10 := Lib.hid hr10
                have hy10 := (o4.block Y (Array.getElem?_eq_some_iff.1 HY9.out).1 (by omega)).trans HY9.out
                have HY10 := Lib.hid hy10
                have HF10_2 := Lib.hid (CellAt.only o4 (fun k hk e => by omega) _ _ HF9_2.out)
                have HO10 := Lib.hid (HO9.out.trans' o4 (fun q hq e => by exact e))
                clear hr10 hy10
                have H10 := Lib.hid h4; clear h4 o4 J
                clear HR9 HO9 H9 HY9 HF9_2
                obtain ⟨y0, y1, y2, y3, yz⟩ := boxN4 HY10.out
                go_upto_region 9 with (fail)
                clear y0 y1 y2 y3 yz
                have hy11 := heap_set (o := 3) HY10.out (.slice ar10 sub.length cr10)
                have hy11 : (w10.setCell ⟨Y, 3, none⟩ (.slice ar10 sub.length cr10)).heap[Y]? = some (.cells #[.bool false, .string ⟨s.toArray⟩, .slice ar8 vs.length cr8, .slice ar10 sub.length cr10] 39 (0, 0)) := by simpa using hy11
                have os11 : Only (fun k => k = Y) w10 (w10.setCell ⟨Y, 3, none⟩ (.slice ar10 sub.length cr10)) := (Only.refl (fun k => k = Y) _).setCell (p := ⟨Y, 3, none⟩) (.inl rfl) _
                obtain ⟨w11, hw11⟩ : ∃ x, w10.setCell ⟨Y, 3, none⟩ (.slice ar10 sub.length cr10) = x := ⟨_, rfl⟩
                rw [hw11] at hy11 os11
                rw [hw11]
                clear hw11
                have HY11 := Lib.hid hy11
                have H11 := Lib.hid (H10.out.only os11 (fun k hk e => by omega)); have HS11 := HS10
                have HF11_3 := Lib.hid (CellAt.only os11 (fun k hk e => by omega) _ _ HP10.out)
                have hr11 := (os11.block B (Array.getElem?_eq_some_iff.1 HR10.out).1 (by omega)).trans HR10.out
                have HR11 := Lib.hid hr11
                have HF11_2 := Lib.hid (CellAt.only os11 (fun k hk e => by omega) _ _ HF10_2.out)
                have HO11 := Lib.hid (HO10.out.trans' os11 (fun q hq e => by have e : q = Y := e; have := HWB.out; omega))
                clear hr11
                clear HP10
                clear hy11 os11 HS10
                clear HR10 HO10 H10 HY10 HF10_2
                obtain ⟨y0, y1, y2, y3, yz⟩ := boxN4 HY11.out
                go_wp2_with ((refine wpList_store_box (o := ⟨none, _, _, _, _, _⟩) rfl 39 (.tmp 2) (.tmp 27) (by rfl) B [.bool false, .string ⟨#[]⟩, .slice none 0 0, .slice none 0 0] [.bool false, .string ⟨s.toArray⟩, .slice ar8 vs.length cr8, .slice ar10 sub.length cr10] (by rfl) (by rfl) HR11.out (by rfl) (by kernel_rfl) (by intro u hu; simp at hu; rcases hu with rfl | rfl | rfl | rfl <;> rfl) ?_; intro w9 k1 k2))
                clear y0 y1 y2 y3 yz
                obtain ⟨y0, y1, y2, y3, -⟩ := boxN4 k1
                have hf2 := CellAt.weaken (G' := fun q => B ≤ q) (fun q _ h => by have h : Y < q := h; show B ≤ q; omega) _ _ (CellAt.only k2 (fun k hk e => by omega) _ _ HF11_2.out)
                have hf3 := CellAt.weaken (G' := fun q => B ≤ q) (fun q _ h => by have h : Y < q := h; show B ≤ q; omega) _ _ (CellAt.only k2 (fun k hk e => by omega) _ _ HF11_3.out)
                exact bodyPost_ret (v := .agg #[.bool false, .string ⟨s.toArray⟩, .slice ar8 vs.length cr8, .slice ar10 sub.length cr10]) (by simp [results, Tryd.results31, go_sem, y0, y1, y2, y3]) rfl (FO.out (⟨false, s, vs, sub⟩) _ w9 _ HS11.out ⟨_, rfl, CellsAt.lit rfl (CellsAt.lit rfl (CellsAt.cons hf2 (CellsAt.cons hf3 (CellsAt.nil _ _))))⟩ (H11.out.only k2 (fun k hk e => by omega)) (HO11.out.trans' k2 (fun q hq e => by have := HWB.out; omega)))
          ·
            go_wp2_with fail
            refine J.out.mono ?_
            rintro e w7 ⟨rfl, o4⟩
            have hr7 := (o4.block B (Array.getElem?_eq_some_iff.1 HR6.out).1 (fun h => h)).trans HR6.out
            have HR7 := Lib.hid hr7
            have hy7 := (o4.block Y (Array.getElem?_eq_some_iff.1 HY6.out).1 (fun h => h)).trans HY6.out
            have HY7 := Lib.hid hy7
            have HO7 := Lib.hid (HO6.out.trans' o4 (fun q hq e => by exact e.elim))
            clear hr7 hy7
            have H7 := Lib.hid (H6.out.still o4); clear o4 J
            have HS7 := Lib.hid (HS6.out.trans (bind_ok (if_neg (by rw [HBT7.out]; decide))))
            clear HS6
            clear HR6 HO6 H6 HY6
            have J := Lib.hid (KCS.out r2 w7 H7.out)
            cases hq : setP 24 r2 with
            | bad a c =>
              rw [hq] at J
              have HE := Lib.hid (HS7.out.trans (bind_bad hq)); clear hq
              go_wp2_with fail
              refine J.out.mono ?_
              rintro e wz ⟨rfl, ⟨r'', dp', h1, h2, h3, h4⟩, h5⟩
              exact ⟨rfl, FB.out _ _ _ _ _ HE.out h1 h2 h3 h4 (HO7.out.trans h5)⟩
            | ok sub r4 =>
              rw [hq] at J
              have HS8 := Lib.hid (HS7.out.trans (bind_ok hq)); clear hq HS7
              go_wp2_with fail
              refine J.out.mono ?_
              rintro e w8 ⟨v, rfl, hv, h4, o4⟩
              have hsz8 : B ≤ w7.heap.size := by have := (Array.getElem?_eq_some_iff.1 HR7.out).1; omega
              have hsy8 : Y < w7.heap.size := (Array.getElem?_eq_some_iff.1 HY7.out).1
              have hv := CellAt.weaken (G' := fun q => Y < q) (fun q _ h => by have h : w7.heap.size ≤ q := h; show Y < q; omega) _ _ hv
              obtain ⟨ar8, cr8, er8⟩ := row_form hv
              rw [List.length_map] at er8
              subst er8
              have hv : CellAt w8 (fun q => Y < q) (.row 7 (sub.map selC)) (.slice ar8 sub.length cr8) := hv
              have HP8 := Lib.hid hv; clear hv
              have hr8 := (o4.block B (Array.getElem?_eq_some_iff.1 HR7.out).1 (by omega)).trans HR7.out
              have HR8 := Lib.hid hr8
              have hy8 := (o4.block Y (Array.getElem?_eq_some_iff.1 HY7.out).1 (by omega)).trans HY7.out
              have HY8 := Lib.hid hy8
              have HO8 := Lib.hid (HO7.out.trans' o4 (fun q hq e => by exact e))
              clear hr8 hy8
              have H8 := Lib.hid h4; clear h4 o4 J
              clear HR7 HO7 H7 HY7
              obtain ⟨y0, y1, y2, y3, yz⟩ := boxN4 HY8.out
              go_upto_region 9 with (fail)
              clear y0 y1 y2 y3 yz
              have hy9 := heap_set (o := 3) HY8.out (.slice ar8 sub.length cr8)
              have hy9 : (w8.setCell ⟨Y, 3, none⟩ (.slice ar8 sub.length cr8)).heap[Y]? = some (.cells #[.bool false, .string ⟨s.toArray⟩, .slice none 0 0, .slice ar8 sub.length cr8] 39 (0, 0)) := by simpa using hy9
              have os9 : Only (fun k => k = Y) w8 (w8.setCell ⟨Y, 3, none⟩ (.slice ar8 sub.length cr8)) := (Only.refl (fun k => k = Y) _).setCell (p := ⟨Y, 3, none⟩) (.inl rfl) _
              obtain ⟨w9, hw9⟩ : ∃ x, w8.setCell ⟨Y, 3, none⟩ (.slice ar8 sub.length cr8) = x := ⟨_, rfl⟩
              rw [hw9] at hy9 os9
              rw [hw9]
              clear hw9
              have HY9 := Lib.hid hy9
              have H9 := Lib.hid (H8.out.only os9 (fun k hk e => by omega)); have HS9 := HS8
              have HF9_3 := Lib.hid (CellAt.only os9 (fun k hk e => by omega) _ _ HP8.out)
              have hr9 := (os9.block B (Array.getElem?_eq_some_iff.1 HR8.out).1 (by omega)).trans HR8.out
              have HR9 := Lib.hid hr9
              have HO9 := Lib.hid (HO8.out.trans' os9 (fun q hq e => by have e : q = Y := e; have := HWB.out; omega))
              clear hr9
              clear HP8
              clear hy9 os9 HS8
              clear HR8 HO8 H8 HY8
              obtain ⟨y0, y1, y2, y3, yz⟩ := boxN4 HY9.out
              go_wp2_with ((refine wpList_store_box (o := ⟨none, _, _, _, _, _⟩) rfl 39 (.tmp 2) (.tmp 27) (by rfl) B [.bool false, .string ⟨#[]⟩, .slice none 0 0, .slice none 0 0] [.bool false, .string ⟨s.toArray⟩, .slice none 0 0, .slice ar8 sub.length cr8] (by rfl) (by rfl) HR9.out (by rfl) (by kernel_rfl) (by intro u hu; simp at hu; rcases hu with rfl | rfl | rfl | rfl <;> rfl) ?_; intro w9 k1 k2))
              clear y0 y1 y2 y3 yz
              obtain ⟨y0, y1, y2, y3, -⟩ := boxN4 k1
              have hf3 := CellAt.weaken (G' := fun q => B ≤ q) (fun q _ h => by have h : Y < q := h; show B ≤ q; omega) _ _ (CellAt.only k2 (fun k hk e => by omega) _ _ HF9_3.out)
              exact bodyPost_ret (v := .agg #[.bool false, .string ⟨s.toArray⟩, .slice none 0 0, .slice ar8 sub.length cr8]) (by simp [results, Tryd.results31, go_sem, y0, y1, y2, y3]) rfl (FO.out (⟨false, s, [], sub⟩) _ w9 _ HS9.out ⟨_, rfl, CellsAt.lit rfl (CellsAt.lit rfl (CellsAt.cons (CellAt.nilRow _ _ _) (CellsAt.cons hf3 (CellsAt.nil _ _))))⟩ (H9.out.only k2 (fun k hk e => by omega)) (HO9.out.trans' k2 (fun q hq e => by have := HWB.out; omega)))
      ·
        go_wp2_with fail
        refine J.out.mono ?_
        rintro e w4 ⟨rfl, o4⟩
        have hr4 := (o4.block B (Array.getElem?_eq_some_iff.1 HR3.out).1 (fun h => h)).trans HR3.out
        have HR4 := Lib.hid hr4
        have hy4 := (o4.block Y (Array.getElem?_eq_some_iff.1 HY3.out).1 (fun h => h)).trans HY3.out
        have HY4 := Lib.hid hy4
        have HO4 := Lib.hid (HO3.out.trans' o4 (fun q hq e => by exact e.elim))
        clear hr4 hy4
        have H4 := Lib.hid (H3.out.still o4); clear o4 J
        have HS4 := Lib.hid (HS3.out.trans (bind_ok (if_neg (by rw [HBT4.out]; decide))))
        clear HS3
        clear HR3 HO3 H3 HY3
        have J := Lib.hid (is_any b all r1 dp [40] w4 H4.out)
        obtain ⟨bb5, hb5⟩ : ∃ x, isS [40] r1 = x := ⟨_, rfl⟩
        rw [hb5] at J
        have HBT5 := Lib.hid hb5; clear hb5
        cases bb5
        rotate_left
        ·
          go_wp2_with fail
          refine J.out.mono ?_
          rintro e w5 ⟨rfl, o4⟩
          have hr5 := (o4.block B (Array.getElem?_eq_some_iff.1 HR4.out).1 (fun h => h)).trans HR4.out
          have HR5 := Lib.hid hr5
          have hy5 := (o4.block Y (Array.getElem?_eq_some_iff.1 HY4.out).1 (fun h => h)).trans HY4.out
          have HY5 := Lib.hid hy5
          have HO5 := Lib.hid (HO4.out.trans' o4 (fun q hq e => by exact e.elim))
          clear hr5 hy5
          have H5 := Lib.hid (H4.out.still o4); clear o4 J
          have HS5 := HS4
          clear HS4
          clear HR4 HO4 H4 HY4
          have hmf : ∀ (fn : Fn) (first cap : Array Value) (w : World), (Instr.makeFunc fn first cap).run Tryd.prog w = .ok (.func fn first cap) w := fun _ _ _ _ => rfl
          have J := Lib.hid (KCM.out r1 w5 H5.out HBT5.out)
          cases hq : manyP varP [41] (r1.length + 1) [] r1.tail with
          | bad a c =>
            rw [hq] at J
            have HE := Lib.hid (HS5.out.trans (bind_bad ((if_pos HBT5.out).trans hq))); clear hq
            go_wp2_with fail
            refine J.out.mono ?_
            rintro e wz ⟨rfl, ⟨r'', dp', h1, h2, h3, h4⟩, h5⟩
            exact ⟨rfl, FB.out _ _ _ _ _ HE.out h1 h2 h3 h4 (HO5.out.trans h5)⟩
          | ok vs r3 =>
            rw [hq] at J
            have HS6 := Lib.hid (HS5.out.trans (bind_ok ((if_pos HBT5.out).trans hq))); clear hq HS5
            go_wp2_with fail
            refine J.out.mono ?_
            rintro e w6 ⟨v, rfl, hv, h4, o4⟩
            have hsz6 : B ≤ w5.heap.size := by have := (Array.getElem?_eq_some_iff.1 HR5.out).1; omega
            have hsy6 : Y < w5.heap.size := (Array.getElem?_eq_some_iff.1 HY5.out).1
            have hv := CellAt.weaken (G' := fun q => Y < q) (fun q _ h => by have h : w5.heap.size ≤ q := h; show Y < q; omega) _ _ hv
            obtain ⟨ar6, cr6, er6⟩ := row_form hv
            rw [List.length_map] at er6
            subst er6
            have hv : CellAt w6 (fun q => Y < q) (.row 10 (vs.map vdC)) (.slice ar6 vs.length cr6) := hv
            have HP6 := Lib.hid hv; clear hv
            have hr6 := (o4.block B (Array.getElem?_eq_some_iff.1 HR5.out).1 (by omega)).trans HR5.out
            have HR6 := Lib.hid hr6
            have hy6 := (o4.block Y (Array.getElem?_eq_some_iff.1 HY5.out).1 (by omega)).trans HY5.out
            have HY6 := Lib.hid hy6
            have HO6 := Lib.hid (HO5.out.trans' o4 (fun q hq e => by exact e))
            clear hr6 hy6
            have H6 := Lib.hid h4; clear h4 o4 J
            clear HR5 HO5 H5 HY5
            obtain ⟨y0, y1, y2, y3, yz⟩ := boxN4 HY6.out
            go_upto_region 8 with (fail)
            clear y0 y1 y2 y3 yz
            have hy7 := heap_set (o := 2) HY6.out (.slice ar6 vs.length cr6)
            have hy7 : (w6.setCell ⟨Y, 2, none⟩ (.slice ar6 vs.length cr6)).heap[Y]? = some (.cells #[.bool false, .string ⟨#[]⟩, .slice ar6 vs.length cr6, .slice none 0 0] 39 (0, 0)) := by simpa using hy7
            have os7 : Only (fun k => k = Y) w6 (w6.setCell ⟨Y, 2, none⟩ (.slice ar6 vs.length cr6)) := (Only.refl (fun k => k = Y) _).setCell (p := ⟨Y, 2, none⟩) (.inl rfl) _
            obtain ⟨w7, hw7⟩ : ∃ x, w6.setCell ⟨Y, 2, none⟩ (.slice ar6 vs.length cr6) = x := ⟨_, rfl⟩
            rw [hw7] at hy7 os7
            rw [hw7]
            clear hw7
            have HY7 := Lib.hid hy7
            have H7 := Lib.hid (H6.out.only os7 (fun k hk e => by omega)); have HS7 := HS6
            have HF7_2 := Lib.hid (CellAt.only os7 (fun k hk e => by omega) _ _ HP6.out)
            have hr7 := (os7.block B (Array.getElem?_eq_some_iff.1 HR6.out).1 (by omega)).trans HR6.out
            have HR7 := Lib.hid hr7
            have HO7 := Lib.hid (HO6.out.trans' os7 (fun q hq e => by have e : q = Y := e; have := HWB.out; omega))
            clear hr7
            clear HP6
            clear hy7 os7 HS6
            clear HR6 HO6 H6 HY6
            have J := Lib.hid (KCS.out r3 w7 H7.out)
            cases hq : setP 24 r3 with
            | bad a c =>
              rw [hq] at J
              have HE := Lib.hid (HS7.out.trans (bind_bad hq)); clear hq
              go_wp2_with fail
              refine J.out.mono ?_
              rintro e wz ⟨rfl, ⟨r'', dp', h1, h2, h3, h4⟩, h5⟩
              exact ⟨rfl, FB.out _ _ _ _ _ HE.out h1 h2 h3 h4 (HO7.out.trans h5)⟩
            | ok sub r4 =>
              rw [hq] at J
              have HS8 := Lib.hid (HS7.out.trans (bind_ok hq)); clear hq HS7
              go_wp2_with fail
              refine J.out.mono ?_
              rintro e w8 ⟨v, rfl, hv, h4, o4⟩
              have hsz8 : B ≤ w7.heap.size := by have := (Array.getElem?_eq_some_iff.1 HR7.out).1; omega
              have hsy8 : Y < w7.heap.size := (Array.getElem?_eq_some_iff.1 HY7.out).1
              have hv := CellAt.weaken (G' := fun q => Y < q) (fun q _ h => by have h : w7.heap.size ≤ q := h; show Y < q; omega) _ _ hv
              obtain ⟨ar8, cr8, er8⟩ := row_form hv
              rw [List.length_map] at er8
              subst er8
              have hv : CellAt w8 (fun q => Y < q) (.row 7 (sub.map selC)) (.slice ar8 sub.length cr8) := hv
              have HP8 := Lib.hid hv; clear hv
              have hr8 := (o4.block B (Array.getElem?_eq_some_iff.1 HR7.out).1 (by omega)).trans HR7.out
              have HR8 := Lib.hid hr8
              have hy8 := (o4.block Y (Array.getElem?_eq_some_iff.1 HY7.out).1 (by omega)).trans HY7.out
              have HY8 := Lib.hid hy8
              have HF8_2 := Lib.hid (CellAt.only o4 (fun k hk e => by omega) _ _ HF7_2.out)
              have HO8 := Lib.hid (HO7.out.trans' o4 (fun q hq e => by exact e))
              clear hr8 hy8
              have H8 := Lib.hid h4; clear h4 o4 J
              clear HR7 HO7 H7 HY7 HF7_2
              obtain ⟨y0, y1, y2, y3, yz⟩ := boxN4 HY8.out
              go_upto_region 9 with (fail)
              clear y0 y1 y2 y3 yz
              have hy9 := heap_set (o := 3) HY8.out (.slice ar8 sub.length cr8)
              have hy9 : (w8.setCell ⟨Y, 3, none⟩ (.slice ar8 sub.length cr8)).heap[Y]? = some (.cells #[.bool false, .string ⟨#[]⟩, .slice ar6 vs.length cr6, .slice ar8 sub.length cr8] 39 (0, 0)) := by simpa using hy9
              have os9 : Only (fun k => k = Y) w8 (w8.setCell ⟨Y, 3, none⟩ (.slice ar8 sub.length cr8)) := (Only.refl (fun k => k = Y) _).setCell (p := ⟨Y, 3, none⟩) (.inl rfl) _
              obtain ⟨w9, hw9⟩ : ∃ x, w8.setCell ⟨Y, 3, none⟩ (.slice ar8 sub.length cr8) = x := ⟨_, rfl⟩
              rw [hw9] at hy9 os9
              rw [hw9]
              clear hw9
              have HY9 := Lib.hid hy9
              have H9 := Lib.hid (H8.out.only os9 (fun k hk e => by omega)); have HS9 := HS8
              have HF9_3 := Lib.hid (CellAt.only os9 (fun k hk e => by omega) _ _ HP8.out)
              have hr9 := (os9.block B (Array.getElem?_eq_some_iff.1 HR8.out).1 (by omega)).trans HR8.out
              have HR9 := Lib.hid hr9
              have HF9_2 := Lib.hid (CellAt.only os9 (fun k hk e => by omega) _ _ HF8_2.out)
              have HO9 := Lib.hid (HO8.out.trans' os9 (fun q hq e => by have e : q = Y := e; have := HWB.out; omega))
              clear hr9
              clear HP8
              clear hy9 os9 HS8
              clear HR8 HO8 H8 HY8 HF8_2
              obtain ⟨y0, y1, y2, y3, yz⟩ := boxN4 HY9.out
              go_wp2_with ((refine wpList_store_box (o := ⟨none, _, _, _, _, _⟩) rfl 39 (.tmp 2) (.tmp 27) (by rfl) B [.bool false, .string ⟨#[]⟩, .slice none 0 0, .slice none 0 0] [.bool false, .string ⟨#[]⟩, .slice ar6 vs.length cr6, .slice ar8 sub.length cr8] (by rfl) (by rfl) HR9.out (by rfl) (by kernel_rfl) (by intro u hu; simp at hu; rcases hu with rfl | rfl | rfl | rfl <;> rfl) ?_; intro w9 k1 k2))
              clear y0 y1 y2 y3 yz
              obtain ⟨y0, y1, y2, y3, -⟩ := boxN4 k1
              have hf2 := CellAt.weaken (G' := fun q => B ≤ q) (fun q _ h => by have h : Y < q := h; show B ≤ q; omega) _ _ (CellAt.only k2 (fun k hk e => by omega) _ _ HF9_2.out)
              have hf3 := CellAt.weaken (G' := fun q => B ≤ q) (fun q _ h => by have h : Y < q := h; show B ≤ q; omega) _ _ (CellAt.only k2 (fun k hk e => by omega) _ _ HF9_3.out)
              exact bodyPost_ret (v := .agg #[.bool false, .string ⟨#[]⟩, .slice ar6 vs.length cr6, .slice ar8 sub.length cr8]) (by simp [results, Tryd.results31, go_sem, y0, y1, y2, y3]) rfl (FO.out (⟨false, [], vs, sub⟩) _ w9 _ HS9.out ⟨_, rfl, CellsAt.lit rfl (CellsAt.lit rfl (CellsAt.cons hf2 (CellsAt.cons hf3 (CellsAt.nil _ _))))⟩ (H9.out.only k2 (fun k hk e => by omega)) (HO9.out.trans' k2 (fun q hq e => by have := HWB.out; omega)))
        ·
          go_wp2_with fail
          refine J.out.mono ?_
          rintro e w5 ⟨rfl, o4⟩
          have hr5 := (o4.block B (Array.getElem?_eq_some_iff.1 HR4.out).1 (fun h => h)).trans HR4.out
          have HR5 := Lib.hid hr5
          have hy5 := (o4.block Y (Array.getElem?_eq_some_iff.1 HY4.out).1 (fun h => h)).trans HY4.out
          have HY5 := Lib.hid hy5
          have HO5 := Lib.hid (HO4.out.trans' o4 (fun q hq e => by exact e.elim))
          clear hr5 hy5
          have H5 := Lib.hid (H4.out.still o4); clear o4 J
          have HS5 := Lib.hid (HS4.out.trans (bind_ok (if_neg (by rw [HBT5.out]; decide))))
          clear HS4
          clear HR4 HO4 H4 HY4
          have J := Lib.hid (KCS.out r1 w5 H5.out)
          cases hq : setP 24 r1 with
          | bad a c =>
            rw [hq] at J
            have HE := Lib.hid (HS5.out.trans (bind_bad hq)); clear hq
            go_wp2_with fail
            refine J.out.mono ?_
            rintro e wz ⟨rfl, ⟨r'', dp', h1, h2, h3, h4⟩, h5⟩
            exact ⟨rfl, FB.out _ _ _ _ _ HE.out h1 h2 h3 h4 (HO5.out.trans h5)⟩
          | ok sub r4 =>
            rw [hq] at J
            have HS6 := Lib.hid (HS5.out.trans (bind_ok hq)); clear hq HS5
            go_wp2_with fail
            refine J.out.mono ?_
            rintro e w6 ⟨v, rfl, hv, h4, o4⟩
            have hsz6 : B ≤ w5.heap.size := by have := (Array.getElem?_eq_some_iff.1 HR5.out).1; omega
            have hsy6 : Y < w5.heap.size := (Array.getElem?_eq_some_iff.1 HY5.out).1
            have hv := CellAt.weaken (G' := fun q => Y < q) (fun q _ h => by have h : w5.heap.size ≤ q := h; show Y < q; omega) _ _ hv
            obtain ⟨ar6, cr6, er6⟩ := row_form hv
            rw [List.length_map] at er6
            subst er6
            have hv : CellAt w6 (fun q => Y < q) (.row 7 (sub.map selC)) (.slice ar6 sub.length cr6) := hv
            have HP6 := Lib.hid hv; clear hv
            have hr6 := (o4.block B (Array.getElem?_eq_some_iff.1 HR5.out).1 (by omega)).trans HR5.out
            have HR6 := Lib.hid hr6
            have hy6 := (o4.block Y (Array.getElem?_eq_some_iff.1 HY5.out).1 (by omega)).trans HY5.out
            have HY6 := Lib.hid hy6
            have HO6 := Lib.hid (HO5.out.trans' o4 (fun q hq e => by exact e))
            clear hr6 hy6
            have H6 := Lib.hid h4; clear h4 o4 J
            clear HR5 HO5 H5 HY5
            obtain ⟨y0, y1, y2, y3, yz⟩ := boxN4 HY6.out
            go_upto_region 9 with (fail)
            clear y0 y1 y2 y3 yz
            have hy7 := heap_set (o := 3) HY6.out (.slice ar6 sub.length cr6)
            have hy7 : (w6.setCell ⟨Y, 3, none⟩ (.slice ar6 sub.length cr6)).heap[Y]? = some (.cells #[.bool false, .string ⟨#[]⟩, .slice none 0 0, .slice ar6 sub.length cr6] 39 (0, 0)) := by simpa using hy7
            have os7 : Only (fun k => k = Y) w6 (w6.setCell ⟨Y, 3, none⟩ (.slice ar6 sub.length cr6)) := (Only.refl (fun k => k = Y) _).setCell (p := ⟨Y, 3, none⟩) (.inl rfl) _
            obtain ⟨w7, hw7⟩ : ∃ x, w6.setCell ⟨Y, 3, none⟩ (.slice ar6 sub.length cr6) = x := ⟨_, rfl⟩
            rw [hw7] at hy7 os7
            rw [hw7]
            clear hw7
            have HY7 := Lib.hid hy7
            have H7 := Lib.hid (H6.out.only os7 (fun k hk e => by omega)); have HS7 := HS6
            have HF7_3 := Lib.hid (CellAt.only os7 (fun k hk e => by omega) _ _ HP6.out)
            have hr7 := (os7.block B (Array.getElem?_eq_some_iff.1 HR6.out).1 (by omega)).trans HR6.out
            have HR7 := Lib.hid hr7
            have HO7 := Lib.hid (HO6.out.trans' os7 (fun q hq e => by have e : q = Y := e; have := HWB.out; omega))
            clear hr7
            clear HP6
            clear hy7 os7 HS6
            clear HR6 HO6 H6 HY6
            obtain ⟨y0, y1, y2, y3, yz⟩ := boxN4 HY7.out
            go_wp2_with ((refine wpList_store_box (o := ⟨none, _, _, _, _, _⟩) rfl 39 (.tmp 2) (.tmp 27) (by rfl) B [.bool false, .string ⟨#[]⟩, .slice none 0 0, .slice none 0 0] [.bool false, .string ⟨#[]⟩, .slice none 0 0, .slice ar6 sub.length cr6] (by rfl) (by rfl) HR7.out (by rfl) (by kernel_rfl) (by intro u hu; simp at hu; rcases hu with rfl | rfl | rfl | rfl <;> rfl) ?_; intro w9 k1 k2))
            clear y0 y1 y2 y3 yz
            obtain ⟨y0, y1, y2, y3, -⟩ := boxN4 k1
            have hf3 := CellAt.weaken (G' := fun q => B ≤ q) (fun q _ h => by have h : Y < q := h; show B ≤ q; omega) _ _ (CellAt.only k2 (fun k hk e => by omega) _ _ HF7_3.out)
            exact bodyPost_ret (v := .agg #[.bool false, .string ⟨#[]⟩, .slice none 0 0, .slice ar6 sub.length cr6]) (by simp [results, Tryd.results31, go_sem, y0, y1, y2, y3]) rfl (FO.out (⟨false, [], [], sub⟩) _ w9 _ HS7.out ⟨_, rfl, CellsAt.lit rfl (CellsAt.lit rfl (CellsAt.cons (CellAt.nilRow _ _ _) (CellsAt.cons hf3 (CellsAt.nil _ _))))⟩ (H7.out.only k2 (fun k hk e => by omega)) (HO7.out.trans' k2 (fun q hq e => by have := HWB.out; omega)))
end Go.Proofs.YtgephneppgcnlaaDoor
