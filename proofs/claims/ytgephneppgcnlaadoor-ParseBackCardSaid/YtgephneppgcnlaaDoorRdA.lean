/- parse.reader.args$1: one argument. -/
import Derived.Test.YtgephneppgcnlaaDoorEnD
import Derived.Test.YtgephneppgcnlaaDoorOwC
import Derived.Test.YtgephneppgcnlaaDoorPva
namespace Go.Proofs.YtgephneppgcnlaaDoor
open Go Go.RowKit
set_option linter.unusedVariables false
set_option linter.unusedSimpArgs false

set_option maxRecDepth 100000 in
set_option maxHeartbeats 40000000 in
theorem argFn_any (d : Nat) (hd : d ≤ 24) (b X : Nat) (all r : List Tok) (w : World) (hX : w.cell? ⟨X, 0, none⟩ = some (.pointer (some ⟨b, 0, none⟩))) (hXb : X ≠ b) (h : RdP w b all r (24 - (d : Int))) :
    Calls Tryd.prog 99 #[.pointer (some ⟨X, 0, none⟩)] w (Ans w b all (24 - (d : Int)) (aggP w.heap.size argC) (argP d r)) := by
  have hbl := h.lt
  have CV := fun (r : List Tok) (w : World) (h : RdP w b all r (24 - (d : Int))) => value_any false d b all r w hd h
  obtain ⟨dp, hdp⟩ : ∃ dp : Int, 24 - (d : Int) = dp := ⟨_, rfl⟩
  rw [hdp] at h ⊢
  rw [hdp] at CV
  clear hdp
  obtain ⟨B, hB⟩ : ∃ B, w.heap.size = B := ⟨_, rfl⟩
  have hbB : b < B := by omega
  obtain ⟨Q, hQ⟩ : ∃ Q, Ans w b all dp (aggP w.heap.size argC) (argP d r) = Q := ⟨_, rfl⟩
  rw [hQ]
  have fb : ∀ a c w' r'' dp', argP d r = .bad a c → RdP w' b all r'' dp' → atT r'' = a → dp ≤ dp' → dp' ≤ dp + 1 → Only (fun k => k = b) w w' → Q (.panicked (faultV c)) w' := fun a c w' r'' dp' e h1 h2 h3 h4 h5 => by
    rw [← hQ, e]; exact ⟨rfl, ⟨r'', dp', h1, h2, h3, h4⟩, h5⟩
  have fo : ∀ x r'' w' v, argP d r = .ok x r'' → aggP B argC w' x v → RdP w' b all r'' dp → Only (fun k => k = b) w w' → Q (.returned v) w' := fun x r'' w' v e h1 h2 h3 => by
    rw [← hQ, e]; exact ⟨v, rfl, by rw [hB]; exact h1, h2, h3⟩
  have hs0 : argP d r = argP d r := rfl
  conv at hs0 => rhs; unfold argP
  obtain ⟨w0, hw0⟩ : ∃ w0, w.alloc (.cells #[.string ⟨#[]⟩, .int .u8 0, .int .i64 0, .string ⟨#[]⟩, .slice none 0 0, .slice none 0 0] 134) = w0 := ⟨_, rfl⟩
  have hr0 : w0.heap[B]? = some (.cells #[.string ⟨#[]⟩, .int .u8 0, .int .i64 0, .string ⟨#[]⟩, .slice none 0 0, .slice none 0 0] 134 (0, 0)) := by rw [← hw0, ← hB]; exact heap_new _ _
  have h0 : RdP w0 b all r dp := by rw [← hw0]; exact h.still ((Only.refl (fun _ => False) w).alloc _)
  have ho0 : Only (fun k => k = b) w w0 := by rw [← hw0]; exact (Only.refl _ w).alloc _
  have hX0 : w0.cell? ⟨X, 0, none⟩ = some (.pointer (some ⟨b, 0, none⟩)) := by rw [← hw0, cell_keep ((Only.refl (fun _ => False) w).alloc _) (cell_lt hX) (fun h => h)]; exact hX
  have hXB : X < B := by rw [← hB]; exact cell_lt hX
  have HX0 := Lib.hid hX0
  clear hX hX0
  have FB := Lib.hid fb; have FO := Lib.hid fo; have HS0 := Lib.hid hs0; have HR0 := Lib.hid hr0; have H0 := Lib.hid h0; have HO0 := Lib.hid ho0; have HW0 := Lib.hid hw0; have HBB := Lib.hid hB; have HWB := Lib.hid (show w.heap.size ≤ B by omega)
  have KCV := Lib.hid CV
  clear fb fo hs0 hr0 h0 ho0 hw0 hB hQ h CV
  go_enter Tryd.func99, Tryd.ntmps99
  go_upto_region 1 with (fail)
  rw [HBB.out, HW0.out]
  clear HW0
  have J := Lib.hid (name_any b all r dp w0 H0.out)
  cases hq : nameP r with
  | bad a c =>
    rw [hq] at J
    have HE := Lib.hid (HS0.out.trans (bind_bad hq)); clear hq
    have cX := HX0.out
    go_wp2_with fail
    refine J.out.mono ?_
    rintro e wz ⟨rfl, ⟨r'', dp', h1, h2, h3, h4⟩, h5⟩
    exact ⟨rfl, FB.out _ _ _ _ _ HE.out h1 h2 h3 h4 (HO0.out.trans h5)⟩
  | ok s r1 =>
    rw [hq] at J
    have HS1 := Lib.hid (HS0.out.trans (bind_ok hq)); clear hq HS0
    have cX := HX0.out
    go_wp2_with fail
    refine J.out.mono ?_
    rintro e w1 ⟨v, rfl, hv, h4, o4⟩
    clear cX
    have hv : v = .string ⟨s.toArray⟩ := hv
    subst hv
    have hr1 := (o4.block B (Array.getElem?_eq_some_iff.1 HR0.out).1 (by omega)).trans HR0.out
    have HR1 := Lib.hid hr1
    have HX1 := Lib.hid ((cell_keep o4 (cell_lt HX0.out) (by show X ≠ b; omega)).trans HX0.out)
    have HO1 := Lib.hid (HO0.out.trans' o4 (fun q hq e => by exact e))
    clear hr1
    have H1 := Lib.hid h4; clear h4 o4 J
    clear HR0 HO0 H0 HX0
    have hsz2 : B < w1.heap.size := (Array.getElem?_eq_some_iff.1 HR1.out).1
    obtain ⟨Y, hY⟩ : ∃ Y, w1.heap.size = Y := ⟨_, rfl⟩
    obtain ⟨w2, hw2⟩ : ∃ x, w1.alloc (.cells #[.string ⟨s.toArray⟩, .int .u8 0, .int .i64 0, .string ⟨#[]⟩, .slice none 0 0, .slice none 0 0] 134) = x := ⟨_, rfl⟩
    have hy2 : w2.heap[Y]? = some (.cells #[.string ⟨s.toArray⟩, .int .u8 0, .int .i64 0, .string ⟨#[]⟩, .slice none 0 0, .slice none 0 0] 134 (0, 0)) := by rw [← hw2, ← hY]; exact heap_new _ _
    have hr2 : w2.heap[B]? = some (.cells #[.string ⟨#[]⟩, .int .u8 0, .int .i64 0, .string ⟨#[]⟩, .slice none 0 0, .slice none 0 0] 134 (0, 0)) := by rw [← hw2]; exact heap_old HR1.out _
    have oa2 : Only (fun _ => False) w1 w2 := by rw [← hw2]; exact (Only.refl _ _).alloc _
    rw [hY] at hsz2
    have HY2 := Lib.hid hy2; have HR2 := Lib.hid hr2; have H2 := Lib.hid (H1.out.still oa2); have HO2 := Lib.hid (HO1.out.trans' oa2 (fun q _ e => e.elim)); have HW2 := Lib.hid hw2; have HYY := Lib.hid hY; have HS2 := HS1
    have HX2 := Lib.hid ((cell_keep oa2 (cell_lt HX1.out) (fun h => h)).trans HX1.out)
    clear hy2 hr2 hw2 hY oa2 HR1 H1 HO1 HS1 HX1
    go_upto_region 2 with (fail)
    rw [HYY.out, HW2.out]
    clear HYY HW2
    have J := Lib.hid (want_any b all r1 dp [58] w2 H2.out)
    cases hq : wantP [58] r1 with
    | bad a c =>
      rw [hq] at J
      have HE := Lib.hid (HS2.out.trans (bind_bad hq)); clear hq
      have cX := HX2.out
      go_wp2_with fail
      refine J.out.mono ?_
      rintro e wz ⟨rfl, ⟨r'', dp', h1, h2, h3, h4⟩, h5⟩
      exact ⟨rfl, FB.out _ _ _ _ _ HE.out h1 h2 h3 h4 (HO2.out.trans h5)⟩
    | ok u r2 =>
      rw [hq] at J
      have HS3 := Lib.hid (HS2.out.trans (bind_ok hq)); clear hq HS2
      have cX := HX2.out
      go_wp2_with fail
      refine J.out.mono ?_
      rintro e w3 ⟨v, rfl, hv, h4, o4⟩
      clear cX
      have hv : v = .tuple #[] := hv
      subst hv
      have hr3 := (o4.block B (Array.getElem?_eq_some_iff.1 HR2.out).1 (by omega)).trans HR2.out
      have HR3 := Lib.hid hr3
      have hy3 := (o4.block Y (Array.getElem?_eq_some_iff.1 HY2.out).1 (by omega)).trans HY2.out
      have HY3 := Lib.hid hy3
      have HX3 := Lib.hid ((cell_keep o4 (cell_lt HX2.out) (by show X ≠ b; omega)).trans HX2.out)
      have HO3 := Lib.hid (HO2.out.trans' o4 (fun q hq e => by exact e))
      clear hr3 hy3
      have H3 := Lib.hid h4; clear h4 o4 J
      clear HR2 HO2 H2 HY2 HX2
      have J := Lib.hid (KCV.out r2 w3 H3.out)
      cases hq : valueP false d r2 with
      | bad a c =>
        rw [hq] at J
        have HE := Lib.hid (HS3.out.trans (bind_bad hq)); clear hq
        have cX := HX3.out
        go_wp2_with fail
        refine J.out.mono ?_
        rintro e wz ⟨rfl, ⟨r'', dp', h1, h2, h3, h4⟩, h5⟩
        exact ⟨rfl, FB.out _ _ _ _ _ HE.out h1 h2 h3 h4 (HO3.out.trans h5)⟩
      | ok y r3 =>
        rw [hq] at J
        have HS4 := Lib.hid (HS3.out.trans (bind_ok hq)); clear hq HS3
        have cX := HX3.out
        go_wp2_with fail
        refine J.out.mono ?_
        rintro e w4 ⟨v, rfl, hv, h4, o4⟩
        clear cX
        obtain ⟨cs, rfl, hv⟩ := hv
        have hsy4 : Y < w3.heap.size := (Array.getElem?_eq_some_iff.1 HY3.out).1
        have hv := CellsAt.weaken (G' := fun q => Y < q) (fun q _ h => by have h : w3.heap.size ≤ q := h; show Y < q; omega) _ _ hv
        obtain ⟨kd, nm, sv, a1, l1, e1, a2, l2, e2, rfl⟩ := valC_form2 hv
        have HP4 := Lib.hid hv; clear hv
        have hr4 := (o4.block B (Array.getElem?_eq_some_iff.1 HR3.out).1 (by omega)).trans HR3.out
        have HR4 := Lib.hid hr4
        have hy4 := (o4.block Y (Array.getElem?_eq_some_iff.1 HY3.out).1 (by omega)).trans HY3.out
        have HY4 := Lib.hid hy4
        have HX4 := Lib.hid ((cell_keep o4 (cell_lt HX3.out) (by show X ≠ b; omega)).trans HX3.out)
        have HO4 := Lib.hid (HO3.out.trans' o4 (fun q hq e => by exact e))
        clear hr4 hy4
        have H4 := Lib.hid h4; clear h4 o4 J
        clear HR3 HO3 H3 HY3 HX3
        go_upto_region 4 with ((refine wpList_store_part (o := ⟨none, _, _, _, _, _⟩) rfl 45 (.tmp 10) (.tmp 9) (by rfl) Y 1 134 [.string ⟨s.toArray⟩] [.int .u8 0, .int .i64 0, .string ⟨#[]⟩, .slice none 0 0, .slice none 0 0] [.int .u8 (kd : Int), .int .i64 nm, .string ⟨sv.toArray⟩, .slice a1 l1 e1, .slice a2 l2 e2] [] (by rfl) (by rfl) HY4.out (by rfl) (by rfl) (by kernel_rfl) (by intro u hu; simp at hu; rcases hu with rfl | rfl | rfl | rfl | rfl <;> rfl) ?_; intro w5 k1 k2))
        have hy5 : w5.heap[Y]? = some (.cells #[.string ⟨s.toArray⟩, .int .u8 (kd : Int), .int .i64 nm, .string ⟨sv.toArray⟩, .slice a1 l1 e1, .slice a2 l2 e2] 134 (0, 0)) := k1
        have HY5 := Lib.hid hy5
        have H5 := Lib.hid (H4.out.only k2 (fun k hk e => by omega)); have HS5 := HS4
        have HF5_1 := Lib.hid (CellsAt.only k2 (fun k hk e => by omega) _ _ HP4.out)
        have hr5 := (k2.block B (Array.getElem?_eq_some_iff.1 HR4.out).1 (by omega)).trans HR4.out
        have HR5 := Lib.hid hr5
        have HX5 := Lib.hid ((cell_keep k2 (cell_lt HX4.out) (by show X ≠ Y; omega)).trans HX4.out)
        have HO5 := Lib.hid (HO4.out.trans' k2 (fun q hq e => by have e : q = Y := e; have := HWB.out; omega))
        clear hr5
        clear hy5 k1 k2 HS4 HP4
        clear HR4 HO4 H4 HY4 HX4
        obtain ⟨y0, y1, y2, y3, y4, y5, yz⟩ := boxN6 HY5.out
        go_wp2_with ((refine wpList_store_box (o := ⟨none, _, _, _, _, _⟩) rfl 134 (.tmp 1) (.tmp 11) (by rfl) B [.string ⟨#[]⟩, .int .u8 0, .int .i64 0, .string ⟨#[]⟩, .slice none 0 0, .slice none 0 0] [.string ⟨s.toArray⟩, .int .u8 (kd : Int), .int .i64 nm, .string ⟨sv.toArray⟩, .slice a1 l1 e1, .slice a2 l2 e2] (by rfl) (by rfl) HR5.out (by rfl) (by kernel_rfl) (by intro u hu; simp at hu; rcases hu with rfl | rfl | rfl | rfl | rfl | rfl <;> rfl) ?_; intro w9 k1 k2))
        clear y0 y1 y2 y3 y4 y5 yz
        obtain ⟨y0, y1, y2, y3, y4, y5, -⟩ := boxN6 k1
        have hf1 := CellsAt.weaken (G' := fun q => B ≤ q) (fun q _ h => by have h : Y < q := h; show B ≤ q; omega) _ _ (CellsAt.only k2 (fun k hk e => by omega) _ _ HF5_1.out)
        exact bodyPost_ret (v := .agg #[.string ⟨s.toArray⟩, .int .u8 (kd : Int), .int .i64 nm, .string ⟨sv.toArray⟩, .slice a1 l1 e1, .slice a2 l2 e2]) (by simp [results, Tryd.results99, go_sem, y0, y1, y2, y3, y4, y5]) rfl (FO.out (⟨s, y⟩) _ w9 _ HS5.out ⟨_, rfl, CellsAt.lit rfl (hf1)⟩ (H5.out.only k2 (fun k hk e => by omega)) (HO5.out.trans' k2 (fun q hq e => by have := HWB.out; omega)))
end Go.Proofs.YtgephneppgcnlaaDoor
