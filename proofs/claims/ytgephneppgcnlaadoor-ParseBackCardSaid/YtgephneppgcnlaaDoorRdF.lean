/- parse.reader.fragment. -/
import Derived.Test.YtgephneppgcnlaaDoorEnD
import Derived.Test.YtgephneppgcnlaaDoorOwC
import Derived.Test.YtgephneppgcnlaaDoorRst
namespace Go.Proofs.YtgephneppgcnlaaDoor
open Go Go.RowKit
set_option linter.unusedVariables false
set_option linter.unusedSimpArgs false

set_option maxRecDepth 100000 in
set_option maxHeartbeats 40000000 in
theorem fragment_any (b : Nat) (all r : List Tok) (w : World) (h : RdP w b all r (24 - ((24 : Nat) : Int))) :
    Calls Tryd.prog 30 #[.pointer (some ⟨b, 0, none⟩)] w (Ans w b all (24 - ((24 : Nat) : Int)) (aggP w.heap.size frC) (fragP r)) := by
  have hbl := h.lt
  have CS := fun (r : List Tok) (w : World) (h : RdP w b all r (24 - ((24 : Nat) : Int))) => set_any 24 b all r w (by decide) h
  obtain ⟨dp, hdp⟩ : ∃ dp : Int, 24 - ((24 : Nat) : Int) = dp := ⟨_, rfl⟩
  rw [hdp] at h ⊢
  rw [hdp] at CS
  clear hdp
  obtain ⟨B, hB⟩ : ∃ B, w.heap.size = B := ⟨_, rfl⟩
  have hbB : b < B := by omega
  obtain ⟨Q, hQ⟩ : ∃ Q, Ans w b all dp (aggP w.heap.size frC) (fragP r) = Q := ⟨_, rfl⟩
  rw [hQ]
  have fb : ∀ a c w' r'' dp', fragP r = .bad a c → RdP w' b all r'' dp' → atT r'' = a → dp ≤ dp' → dp' ≤ dp + 1 → Only (fun k => k = b) w w' → Q (.panicked (faultV c)) w' := fun a c w' r'' dp' e h1 h2 h3 h4 h5 => by
    rw [← hQ, e]; exact ⟨rfl, ⟨r'', dp', h1, h2, h3, h4⟩, h5⟩
  have fo : ∀ x r'' w' v, fragP r = .ok x r'' → aggP B frC w' x v → RdP w' b all r'' dp → Only (fun k => k = b) w w' → Q (.returned v) w' := fun x r'' w' v e h1 h2 h3 => by
    rw [← hQ, e]; exact ⟨v, rfl, by rw [hB]; exact h1, h2, h3⟩
  have hs0 : fragP r = fragP r := rfl
  conv at hs0 => rhs; unfold fragP
  obtain ⟨w0, hw0⟩ : ∃ w0, w.alloc (.cells #[.string ⟨#[]⟩, .string ⟨#[]⟩, .slice none 0 0] 53) = w0 := ⟨_, rfl⟩
  have hr0 : w0.heap[B]? = some (.cells #[.string ⟨#[]⟩, .string ⟨#[]⟩, .slice none 0 0] 53 (0, 0)) := by rw [← hw0, ← hB]; exact heap_new _ _
  have h0 : RdP w0 b all r dp := by rw [← hw0]; exact h.still ((Only.refl (fun _ => False) w).alloc _)
  have ho0 : Only (fun k => k = b) w w0 := by rw [← hw0]; exact (Only.refl _ w).alloc _
  have FB := Lib.hid fb; have FO := Lib.hid fo; have HS0 := Lib.hid hs0; have HR0 := Lib.hid hr0; have H0 := Lib.hid h0; have HO0 := Lib.hid ho0; have HW0 := Lib.hid hw0; have HBB := Lib.hid hB; have HWB := Lib.hid (show w.heap.size ≤ B by omega)
  have KCS := Lib.hid CS
  clear fb fo hs0 hr0 h0 ho0 hw0 hB hQ h CS
  go_enter Tryd.func30, Tryd.ntmps30
  go_upto_region 1 with (fail)
  rw [HBB.out, HW0.out]
  clear HW0
  have J := Lib.hid (word_any b all r dp wOn w0 H0.out)
  obtain ⟨bb1, hb1⟩ : ∃ x, isW wOn r = x := ⟨_, rfl⟩
  rw [hb1] at J
  have HBT1 := Lib.hid hb1; clear hb1
  cases bb1
  rotate_left
  ·
    go_wp2_with fail
    refine J.out.mono ?_
    rintro e w1 ⟨rfl, o4⟩
    have hr1 := (o4.block B (Array.getElem?_eq_some_iff.1 HR0.out).1 (fun h => h)).trans HR0.out
    have HR1 := Lib.hid hr1
    have HO1 := Lib.hid (HO0.out.trans' o4 (fun q hq e => by exact e.elim))
    clear hr1
    have H1 := Lib.hid (H0.out.still o4); clear o4 J
    have HS1 := Lib.hid (HS0.out.trans (if_pos HBT1.out))
    clear HS0
    clear HR0 HO0 H0
    go_wp2_with fail
    refine (stop_any b 4 w1).mono ?_
    rintro e wz ⟨rfl, rfl⟩
    exact ⟨rfl, FB.out _ _ _ _ _ HS1.out H1.out rfl (by omega) (by omega) HO1.out⟩
  ·
    go_wp2_with fail
    refine J.out.mono ?_
    rintro e w1 ⟨rfl, o4⟩
    have hr1 := (o4.block B (Array.getElem?_eq_some_iff.1 HR0.out).1 (fun h => h)).trans HR0.out
    have HR1 := Lib.hid hr1
    have HO1 := Lib.hid (HO0.out.trans' o4 (fun q hq e => by exact e.elim))
    clear hr1
    have H1 := Lib.hid (H0.out.still o4); clear o4 J
    have HS1 := Lib.hid (HS0.out.trans (if_neg (by rw [HBT1.out]; decide)))
    clear HS0
    clear HR0 HO0 H0
    have J := Lib.hid (name_any b all r dp w1 H1.out)
    cases hq : nameP r with
    | bad a c =>
      rw [hq] at J
      have HE := Lib.hid (HS1.out.trans (bind_bad hq)); clear hq
      go_wp2_with fail
      refine J.out.mono ?_
      rintro e wz ⟨rfl, ⟨r'', dp', h1, h2, h3, h4⟩, h5⟩
      exact ⟨rfl, FB.out _ _ _ _ _ HE.out h1 h2 h3 h4 (HO1.out.trans h5)⟩
    | ok s r1 =>
      rw [hq] at J
      have HS2 := Lib.hid (HS1.out.trans (bind_ok hq)); clear hq HS1
      go_wp2_with fail
      refine J.out.mono ?_
      rintro e w2 ⟨v, rfl, hv, h4, o4⟩
      have hv : v = .string ⟨s.toArray⟩ := hv
      subst hv
      have hr2 := (o4.block B (Array.getElem?_eq_some_iff.1 HR1.out).1 (by omega)).trans HR1.out
      have HR2 := Lib.hid hr2
      have HO2 := Lib.hid (HO1.out.trans' o4 (fun q hq e => by exact e))
      clear hr2
      have H2 := Lib.hid h4; clear h4 o4 J
      clear HR1 HO1 H1
      have hsz3 : B < w2.heap.size := (Array.getElem?_eq_some_iff.1 HR2.out).1
      obtain ⟨Y, hY⟩ : ∃ Y, w2.heap.size = Y := ⟨_, rfl⟩
      obtain ⟨w3, hw3⟩ : ∃ x, w2.alloc (.cells #[.string ⟨s.toArray⟩, .string ⟨#[]⟩, .slice none 0 0] 53) = x := ⟨_, rfl⟩
      have hy3 : w3.heap[Y]? = some (.cells #[.string ⟨s.toArray⟩, .string ⟨#[]⟩, .slice none 0 0] 53 (0, 0)) := by rw [← hw3, ← hY]; exact heap_new _ _
      have hr3 : w3.heap[B]? = some (.cells #[.string ⟨#[]⟩, .string ⟨#[]⟩, .slice none 0 0] 53 (0, 0)) := by rw [← hw3]; exact heap_old HR2.out _
      have oa3 : Only (fun _ => False) w2 w3 := by rw [← hw3]; exact (Only.refl _ _).alloc _
      rw [hY] at hsz3
      have HY3 := Lib.hid hy3; have HR3 := Lib.hid hr3; have H3 := Lib.hid (H2.out.still oa3); have HO3 := Lib.hid (HO2.out.trans' oa3 (fun q _ e => e.elim)); have HW3 := Lib.hid hw3; have HYY := Lib.hid hY; have HS3 := HS2
      clear hy3 hr3 hw3 hY oa3 HR2 H2 HO2 HS2
      go_upto_region 4 with (fail)
      rw [HYY.out, HW3.out]
      clear HYY HW3
      have J := Lib.hid (want_any b all r1 dp wOn w3 H3.out)
      cases hq : wantP wOn r1 with
      | bad a c =>
        rw [hq] at J
        have HE := Lib.hid (HS3.out.trans (bind_bad hq)); clear hq
        go_wp2_with fail
        refine J.out.mono ?_
        rintro e wz ⟨rfl, ⟨r'', dp', h1, h2, h3, h4⟩, h5⟩
        exact ⟨rfl, FB.out _ _ _ _ _ HE.out h1 h2 h3 h4 (HO3.out.trans h5)⟩
      | ok u r2 =>
        rw [hq] at J
        have HS4 := Lib.hid (HS3.out.trans (bind_ok hq)); clear hq HS3
        go_wp2_with fail
        refine J.out.mono ?_
        rintro e w4 ⟨v, rfl, hv, h4, o4⟩
        have hv : v = .tuple #[] := hv
        subst hv
        have hr4 := (o4.block B (Array.getElem?_eq_some_iff.1 HR3.out).1 (by omega)).trans HR3.out
        have HR4 := Lib.hid hr4
        have hy4 := (o4.block Y (Array.getElem?_eq_some_iff.1 HY3.out).1 (by omega)).trans HY3.out
        have HY4 := Lib.hid hy4
        have HO4 := Lib.hid (HO3.out.trans' o4 (fun q hq e => by exact e))
        clear hr4 hy4
        have H4 := Lib.hid h4; clear h4 o4 J
        clear HR3 HO3 H3 HY3
        have J := Lib.hid (name_any b all r2 dp w4 H4.out)
        cases hq : nameP r2 with
        | bad a c =>
          rw [hq] at J
          have HE := Lib.hid (HS4.out.trans (bind_bad hq)); clear hq
          go_wp2_with fail
          refine J.out.mono ?_
          rintro e wz ⟨rfl, ⟨r'', dp', h1, h2, h3, h4⟩, h5⟩
          exact ⟨rfl, FB.out _ _ _ _ _ HE.out h1 h2 h3 h4 (HO4.out.trans h5)⟩
        | ok s2 r3 =>
          rw [hq] at J
          have HS5 := Lib.hid (HS4.out.trans (bind_ok hq)); clear hq HS4
          go_wp2_with fail
          refine J.out.mono ?_
          rintro e w5 ⟨v, rfl, hv, h4, o4⟩
          have hv : v = .string ⟨s2.toArray⟩ := hv
          subst hv
          have hr5 := (o4.block B (Array.getElem?_eq_some_iff.1 HR4.out).1 (by omega)).trans HR4.out
          have HR5 := Lib.hid hr5
          have hy5 := (o4.block Y (Array.getElem?_eq_some_iff.1 HY4.out).1 (by omega)).trans HY4.out
          have HY5 := Lib.hid hy5
          have HO5 := Lib.hid (HO4.out.trans' o4 (fun q hq e => by exact e))
          clear hr5 hy5
          have H5 := Lib.hid h4; clear h4 o4 J
          clear HR4 HO4 H4 HY4
          obtain ⟨y0, y1, y2, yz⟩ := boxN3 HY5.out
          go_upto_region 6 with (fail)
          clear y0 y1 y2 yz
          have hy6 := heap_set (o := 1) HY5.out (.string ⟨s2.toArray⟩)
          have hy6 : (w5.setCell ⟨Y, 1, none⟩ (.string ⟨s2.toArray⟩)).heap[Y]? = some (.cells #[.string ⟨s.toArray⟩, .string ⟨s2.toArray⟩, .slice none 0 0] 53 (0, 0)) := by simpa using hy6
          have os6 : Only (fun k => k = Y) w5 (w5.setCell ⟨Y, 1, none⟩ (.string ⟨s2.toArray⟩)) := (Only.refl (fun k => k = Y) _).setCell (p := ⟨Y, 1, none⟩) (.inl rfl) _
          obtain ⟨w6, hw6⟩ : ∃ x, w5.setCell ⟨Y, 1, none⟩ (.string ⟨s2.toArray⟩) = x := ⟨_, rfl⟩
          rw [hw6] at hy6 os6
          rw [hw6]
          clear hw6
          have HY6 := Lib.hid hy6
          have H6 := Lib.hid (H5.out.only os6 (fun k hk e => by omega)); have HS6 := HS5
          have hr6 := (os6.block B (Array.getElem?_eq_some_iff.1 HR5.out).1 (by omega)).trans HR5.out
          have HR6 := Lib.hid hr6
          have HO6 := Lib.hid (HO5.out.trans' os6 (fun q hq e => by have e : q = Y := e; have := HWB.out; omega))
          clear hr6
          clear hy6 os6 HS5
          clear HR5 HO5 H5 HY5
          have J := Lib.hid (KCS.out r3 w6 H6.out)
          cases hq : setP 24 r3 with
          | bad a c =>
            rw [hq] at J
            have HE := Lib.hid (HS6.out.trans (bind_bad hq)); clear hq
            go_wp2_with fail
            refine J.out.mono ?_
            rintro e wz ⟨rfl, ⟨r'', dp', h1, h2, h3, h4⟩, h5⟩
            exact ⟨rfl, FB.out _ _ _ _ _ HE.out h1 h2 h3 h4 (HO6.out.trans h5)⟩
          | ok sub r4 =>
            rw [hq] at J
            have HS7 := Lib.hid (HS6.out.trans (bind_ok hq)); clear hq HS6
            go_wp2_with fail
            refine J.out.mono ?_
            rintro e w7 ⟨v, rfl, hv, h4, o4⟩
            have hsz7 : B ≤ w6.heap.size := by have := (Array.getElem?_eq_some_iff.1 HR6.out).1; omega
            have hsy7 : Y < w6.heap.size := (Array.getElem?_eq_some_iff.1 HY6.out).1
            have hv := CellAt.weaken (G' := fun q => Y < q) (fun q _ h => by have h : w6.heap.size ≤ q := h; show Y < q; omega) _ _ hv
            obtain ⟨ar7, cr7, er7⟩ := row_form hv
            rw [List.length_map] at er7
            subst er7
            have hv : CellAt w7 (fun q => Y < q) (.row 7 (sub.map selC)) (.slice ar7 sub.length cr7) := hv
            have HP7 := Lib.hid hv; clear hv
            have hr7 := (o4.block B (Array.getElem?_eq_some_iff.1 HR6.out).1 (by omega)).trans HR6.out
            have HR7 := Lib.hid hr7
            have hy7 := (o4.block Y (Array.getElem?_eq_some_iff.1 HY6.out).1 (by omega)).trans HY6.out
            have HY7 := Lib.hid hy7
            have HO7 := Lib.hid (HO6.out.trans' o4 (fun q hq e => by exact e))
            clear hr7 hy7
            have H7 := Lib.hid h4; clear h4 o4 J
            clear HR6 HO6 H6 HY6
            obtain ⟨y0, y1, y2, yz⟩ := boxN3 HY7.out
            go_upto_region 7 with (fail)
            clear y0 y1 y2 yz
            have hy8 := heap_set (o := 2) HY7.out (.slice ar7 sub.length cr7)
            have hy8 : (w7.setCell ⟨Y, 2, none⟩ (.slice ar7 sub.length cr7)).heap[Y]? = some (.cells #[.string ⟨s.toArray⟩, .string ⟨s2.toArray⟩, .slice ar7 sub.length cr7] 53 (0, 0)) := by simpa using hy8
            have os8 : Only (fun k => k = Y) w7 (w7.setCell ⟨Y, 2, none⟩ (.slice ar7 sub.length cr7)) := (Only.refl (fun k => k = Y) _).setCell (p := ⟨Y, 2, none⟩) (.inl rfl) _
            obtain ⟨w8, hw8⟩ : ∃ x, w7.setCell ⟨Y, 2, none⟩ (.slice ar7 sub.length cr7) = x := ⟨_, rfl⟩
            rw [hw8] at hy8 os8
            rw [hw8]
            clear hw8
            have HY8 := Lib.hid hy8
            have H8 := Lib.hid (H7.out.only os8 (fun k hk e => by omega)); have HS8 := HS7
            have HF8_2 := Lib.hid (CellAt.only os8 (fun k hk e => by omega) _ _ HP7.out)
            have hr8 := (os8.block B (Array.getElem?_eq_some_iff.1 HR7.out).1 (by omega)).trans HR7.out
            have HR8 := Lib.hid hr8
            have HO8 := Lib.hid (HO7.out.trans' os8 (fun q hq e => by have e : q = Y := e; have := HWB.out; omega))
            clear hr8
            clear HP7
            clear hy8 os8 HS7
            clear HR7 HO7 H7 HY7
            obtain ⟨y0, y1, y2, yz⟩ := boxN3 HY8.out
            go_wp2_with ((refine wpList_store_box (o := ⟨none, _, _, _, _, _⟩) rfl 53 (.tmp 2) (.tmp 19) (by rfl) B [.string ⟨#[]⟩, .string ⟨#[]⟩, .slice none 0 0] [.string ⟨s.toArray⟩, .string ⟨s2.toArray⟩, .slice ar7 sub.length cr7] (by rfl) (by rfl) HR8.out (by rfl) (by kernel_rfl) (by intro u hu; simp at hu; rcases hu with rfl | rfl | rfl <;> rfl) ?_; intro w9 k1 k2))
            clear y0 y1 y2 yz
            obtain ⟨y0, y1, y2, -⟩ := boxN3 k1
            have hf2 := CellAt.weaken (G' := fun q => B ≤ q) (fun q _ h => by have h : Y < q := h; show B ≤ q; omega) _ _ (CellAt.only k2 (fun k hk e => by omega) _ _ HF8_2.out)
            exact bodyPost_ret (v := .agg #[.string ⟨s.toArray⟩, .string ⟨s2.toArray⟩, .slice ar7 sub.length cr7]) (by simp [results, Tryd.results30, go_sem, y0, y1, y2]) rfl (FO.out (⟨s, s2, sub⟩) _ w9 _ HS8.out ⟨_, rfl, CellsAt.lit rfl (CellsAt.lit rfl (CellsAt.cons hf2 (CellsAt.nil _ _)))⟩ (H8.out.only k2 (fun k hk e => by omega)) (HO8.out.trans' k2 (fun q hq e => by have := HWB.out; omega)))
end Go.Proofs.YtgephneppgcnlaaDoor
