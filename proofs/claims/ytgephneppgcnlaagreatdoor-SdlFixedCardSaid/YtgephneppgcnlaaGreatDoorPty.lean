/- parse.reader.typ: a type as it is named. -/
import Derived.Test.YtgephneppgcnlaaGreatDoorPre
import Derived.Test.YtgephneppgcnlaaGreatDoorEnc
namespace Go.Proofs.YtgephneppgcnlaaGreatDoor
open Go Go.RowKit
set_option linter.unusedVariables false
set_option linter.unusedSimpArgs false

set_option maxRecDepth 100000 in
set_option maxHeartbeats 4000000 in
theorem typ_any : ∀ (d : Nat) (b : Nat) (all r : List Tok) (w : World), d ≤ 24 → RdP w b all r (24 - (d : Int)) →
    Calls Tryz.prog 72 #[.pointer (some ⟨b, 0, none⟩)] w (Ans w b all (24 - (d : Int)) (aggP w.heap.size trC) (typP d r))
  | 0, b, all, r, w, hd, h => by
    have HD := Lib.hid (down_bad b all r (24 - ((0 : Nat) : Int)) (w.alloc (.cells #[.string ⟨#[]⟩, .slice none 0 0, .bool false] 40)) (h.still ((Only.refl (fun _ => False) w).alloc _)) (by decide) (by decide))
    have HP : ∀ w2, RdP w2 b all r (24 - ((0 : Nat) : Int) + 1) → Only (fun k => k = b) w w2 → Ans w b all (24 - ((0 : Nat) : Int)) (aggP w.heap.size trC) (typP 0 r) (.panicked (faultV 5)) w2 := fun w2 h o => ⟨rfl, ⟨r, _, h, rfl, by omega, by omega⟩, o⟩
    have HPP := Lib.hid HP; clear HP h
    generalize (Ans w b all (24 - ((0 : Nat) : Int)) (aggP w.heap.size trC) (typP 0 r)) = Q at *
    go_enter_defers Tryz.func72, Tryz.ntmps72
    go_wp2_with fail
    refine HD.out.mono ?_
    rintro e w2 ⟨rfl, h2, o2⟩
    exact HPP.out _ h2 (((Only.refl (fun k => k = b) w).alloc _).trans o2)
  | d + 1, b, all, r, w, hd, h => by
    have hbl := h.lt
    have HD := Lib.hid (down_ok b all r (24 - ((d + 1 : Nat) : Int)) (w.alloc (.cells #[.string ⟨#[]⟩, .slice none 0 0, .bool false] 40)) (h.still ((Only.refl (fun _ => False) w).alloc _)) (by omega) (by omega))
    have IH := Lib.hid (fun b all r w => typ_any d b all r w (by omega))
    have hres := heap_new w (.cells #[.string ⟨#[]⟩, .slice none 0 0, .bool false] 40)
    have hO0 : Only (fun k => k = b) w (w.alloc (.cells #[.string ⟨#[]⟩, .slice none 0 0, .bool false] 40)) := (Only.refl (fun k => k = b) w).alloc _
    obtain ⟨B, hB⟩ : ∃ B, w.heap.size = B := ⟨_, rfl⟩
    have HRES := Lib.hid hres; have HO0 := Lib.hid hO0; have HBB := Lib.hid hB
    obtain ⟨dp, hdp⟩ : ∃ dp : Int, 24 - ((d + 1 : Nat) : Int) = dp := ⟨_, rfl⟩
    have hdp1 : 24 - (d : Int) = dp + 1 := by omega
    have HQ : ∀ e w', Ans w b all dp (aggP w.heap.size trC) (typP (d + 1) r) e w' → Ans w b all (24 - ((d + 1 : Nat) : Int)) (aggP w.heap.size trC) (typP (d + 1) r) e w' := fun e w' h => by rw [hdp]; exact h
    refine Calls.mono ?_ HQ
    rw [hdp] at HD
    have hdb1 : 0 ≤ dp := by omega
    have hdb2 : dp < 24 := by omega
    rw [hdp1] at IH
    clear HQ h hres hO0 hdp hdp1 hB
    obtain ⟨Q, hQ⟩ : ∃ Q, Ans w b all dp (aggP w.heap.size trC) (typP (d + 1) r) = Q := ⟨_, rfl⟩
    have HQ := Lib.hid hQ
    show Calls Tryz.prog _ _ w (Ans w b all dp (aggP w.heap.size trC) (typP (d + 1) r))
    rw [hQ]; clear hQ
    go_enter_defers Tryz.func72, Tryz.ntmps72
    go_wp2_with fail
    refine HD.out.mono ?_
    rintro e w2 ⟨rfl, h2, o2⟩
    have H2 := Lib.hid h2; have O2 := Lib.hid (HO0.out.trans o2)
    have hr2 := o2.block B (by simp; have := HBB.out; omega) (by have := HBB.out; omega)
    rw [HBB.out] at HRES
    rw [HRES.out] at hr2
    have HR2 := Lib.hid hr2
    clear h2 o2 hr2
    have fb : ∀ a c w' r' dp', typP (d + 1) r = .bad a c → RdP w' b all r' dp' → atT r' = a → dp ≤ dp' → dp' ≤ dp + 1 → Only (fun k => k = b) w w' → Q (.panicked (faultV c)) w' := fun a c w' r' dp' e h1 h2 h3 h4 h5 => by
      rw [← HQ.out, e]; exact ⟨rfl, ⟨r', dp', h1, h2, h3, h4⟩, h5⟩
    have fo : ∀ x r' w' v, typP (d + 1) r = .ok x r' → aggP B trC w' x v → RdP w' b all r' dp → Only (fun k => k = b) w w' → Q (.returned v) w' := fun x r' w' v e h1 h2 h3 => by
      rw [← HQ.out, e]; exact ⟨v, rfl, by rw [HBB.out]; exact h1, h2, h3⟩
    have FB := Lib.hid fb; have FO := Lib.hid fo; clear fb fo HQ
    have hsz : B < w2.heap.size := (Array.getElem?_eq_some_iff.1 HR2.out).1
    have hbB : b < B := by have := HBB.out; omega
    have hwB : w.heap.size ≤ B := by have := HBB.out; omega
    obtain ⟨X, hX⟩ : ∃ X, w2.heap.size = X := ⟨_, rfl⟩
    obtain ⟨w3, hw3⟩ : ∃ w3, w3 = w2.alloc (.cells #[.string ⟨#[]⟩, .slice none 0 0, .bool false] 40) := ⟨_, rfl⟩
    have hb3 : w3.heap[X]? = some (.cells #[.string ⟨#[]⟩, .slice none 0 0, .bool false] 40 (0, 0)) := by rw [hw3, ← hX]; exact heap_new _ _
    have hr3 : w3.heap[B]? = some (.cells #[.string ⟨#[]⟩, .slice none 0 0, .bool false] 40 (0, 0)) := by rw [hw3]; exact heap_old HR2.out _
    have ho3 : Only (fun k => k = b) w w3 := by rw [hw3]; exact O2.out.alloc _
    have h3 : RdP w3 b all r (dp + 1) := by rw [hw3]; exact H2.out.still ((Only.refl (fun _ => False) w2).alloc _)
    rw [hX] at hsz
    have HB3 := Lib.hid hb3; have HR3 := Lib.hid hr3; have HO3 := Lib.hid ho3; have H3 := Lib.hid h3; have HW3 := Lib.hid hw3; have HX := Lib.hid hX
    clear hb3 hr3 ho3 h3 hw3 hX H2 O2 HR2 HRES HO0 HD
    go_upto_region 4 with (fail)
    rw [← HW3.out, HX.out, HBB.out]
    clear HW3 HX HBB
    have T := Lib.hid (take_any b all r (dp + 1) [91] w3 H3.out)
    unfold tookP at T
    cases ht : isT [91] r
    · rw [ht] at T
      have hstep : typP (d + 1) r = (nameP r).bind fun s r1 => bangP (.nm s) r1 := by rw [typP, if_neg (by rw [ht]; decide)]
      have HS := Lib.hid hstep; clear hstep ht
      rw [if_neg (by decide)] at T
      go_wp2_with fail
      refine T.out.mono ?_
      rintro e w4 ⟨rfl, h4, o4⟩
      have hb4 := (o4.block X (Array.getElem?_eq_some_iff.1 HB3.out).1 (by omega)).trans HB3.out
      have hr4 := (o4.block B (Array.getElem?_eq_some_iff.1 HR3.out).1 (by omega)).trans HR3.out
      have H4 := Lib.hid h4; have HB4 := Lib.hid hb4; have HR4 := Lib.hid hr4; have HO4 := Lib.hid (HO3.out.trans o4)
      have hs4 : X < w4.heap.size := (Array.getElem?_eq_some_iff.1 hb4).1
      clear h4 hb4 hr4 o4 T
      have J := Lib.hid (name_any b all r (dp + 1) w4 H4.out)
      cases hq : nameP r with
      | bad a c =>
        rw [hq] at J
        have HE := Lib.hid (HS.out.trans (bind_bad hq)); clear hq
        go_wp2_with fail
        refine J.out.mono ?_
        rintro e w5 ⟨rfl, ⟨r', dp', h5, ha, l1, l2⟩, o5⟩
        have HO5 := Lib.hid (HO4.out.trans o5)
        exact door_bad h5 (by omega) (by omega) (fun w' h6 o6 => FB.out a c w' r' (dp' - 1) HE.out h6 ha (by omega) (by omega) (HO5.out.trans o6))
      | ok s r1 =>
        rw [hq] at J
        have HE := Lib.hid (HS.out.trans (bind_ok hq)); clear hq
        go_wp2_with fail
        refine J.out.mono ?_
        rintro e w5 ⟨v, rfl, hv, h5, o5⟩
        have hv : v = .string ⟨s.toArray⟩ := hv
        subst hv
        have hb5 := (o5.block X (Array.getElem?_eq_some_iff.1 HB4.out).1 (by omega)).trans HB4.out
        have hr5 := (o5.block B (Array.getElem?_eq_some_iff.1 HR4.out).1 (by omega)).trans HR4.out
        obtain ⟨z0, z1, z2, fz⟩ := box3 hb5
        have hb7 := heap_set (o := 0) hb5 (.string ⟨s.toArray⟩)
        have hr7 := heap_set_ne (a := ⟨X, 0, none⟩) hr5 (by show B ≠ X; omega) (.string ⟨s.toArray⟩)
        have o7 := (Only.refl (fun k => k = X) w5).setCell (p := ⟨X, 0, none⟩) (.inl rfl) (.string ⟨s.toArray⟩)
        have ho7 := (HO4.out.trans o5).setCell (p := ⟨X, 0, none⟩) (.inr (by show w.heap.size ≤ X; omega)) (.string ⟨s.toArray⟩)
        have h7 := h5.only o7 (fun k hk e => by omega)
        have Hw8 := Lib.hid h7; have HBw8 := Lib.hid hb7; have HRw8 := Lib.hid hr7; have HOw8 := Lib.hid ho7
        clear h7 hb7 hr7 o7 ho7 hb5 hr5 o5 h5 J
        go_upto_region 8 with (fail)
        clear z0 z1 z2 fz
        obtain ⟨w8, hw8⟩ : ∃ w8, w5.setCell ⟨X, 0, none⟩ (.string ⟨s.toArray⟩) = w8 := ⟨_, rfl⟩
        rw [hw8] at Hw8 HBw8 HRw8 HOw8
        rw [hw8]
        clear hw8
        have T2 := Lib.hid (take_any b all r1 (dp + 1) [33] w8 Hw8.out)
        unfold tookP at T2
        obtain ⟨bb, hbb⟩ : ∃ bb, isT [33] r1 = bb := ⟨_, rfl⟩
        obtain ⟨rz, hrz⟩ : ∃ rz, (if isT [33] r1 = true then r1.tail else r1) = rz := ⟨_, rfl⟩
        have hbang : bangP (TR.nm s) r1 = .ok (TR.nm s bb) rz := by unfold bangP; rw [← hrz, ← hbb]; cases isT [33] r1 <;> rfl
        rw [hrz, hbb] at T2
        have hfin := HE.out.trans hbang
        have HFIN := Lib.hid hfin; clear hbb hrz hbang hfin
        go_wp2_with fail
        refine T2.out.mono ?_
        rintro e wB ⟨rfl, hB, oB⟩
        have hbB' := (oB.block X (Array.getElem?_eq_some_iff.1 HBw8.out).1 (by omega)).trans HBw8.out
        have hrB := (oB.block B (Array.getElem?_eq_some_iff.1 HRw8.out).1 (by omega)).trans HRw8.out
        have hbs := heap_set (o := 2) hbB' (.bool bb)
        have hrs := heap_set_ne (a := ⟨X, 2, none⟩) hrB (by show B ≠ X; omega) (.bool bb)
        have hXs : Only (fun k => k = X) wB (wB.setCell ⟨X, 2, none⟩ (.bool bb)) := (Only.refl (fun k => k = X) wB).setCell (.inl rfl) _
        have hOs : Only (fun k => k = b) w (wB.setCell ⟨X, 2, none⟩ (.bool bb)) := (HOw8.out.trans oB).setCell (.inr (by show w.heap.size ≤ X; omega)) _
        have hs2 := hB.only hXs (fun k hk e => by omega)
        obtain ⟨z0, z1, z2, fz⟩ := box3 hbB'
        have HCS := Lib.hid (show CellsAt (wB.setCell ⟨X, 2, none⟩ (.bool bb)) (fun q => X < q) (trC (TR.nm s bb)) [.string ⟨s.toArray⟩, .slice none 0 0, .bool bb] from by
          rw [trC]
          exact CellsAt.lit rfl (CellsAt.cons (CellAt.nilRow _ _ _) (CellsAt.lit rfl (CellsAt.nil _ _))))
        have HBS := Lib.hid hbs; have HRS := Lib.hid hrs; have HOS := Lib.hid hOs; have HS2 := Lib.hid hs2
        clear hbs hrs hOs hs2 hXs hbB' hrB oB hB T2
        go_upto_region 9 with (fail)
        clear z0 z1 z2 fz
        obtain ⟨wS, hwS⟩ : ∃ wS, wB.setCell ⟨X, 2, none⟩ (.bool bb) = wS := ⟨_, rfl⟩
        rw [hwS] at HBS HRS HOS HS2 HCS
        rw [hwS]
        clear hwS
        obtain ⟨z0, z1, z2, fz⟩ := box3 (show wS.heap[X]? = some (.cells #[.string ⟨s.toArray⟩, .slice none 0 0, .bool bb] 40 (0, 0)) from by simpa using HBS.out)
        go_wp2_with ((refine wpList_store_box (o := ⟨none, _, _, _, _, _⟩) rfl 40 (.tmp 2) (.tmp 21) (by rfl) B [.string ⟨#[]⟩, .slice none 0 0, .bool false] [.string ⟨s.toArray⟩, .slice none 0 0, .bool bb] (by rfl) (by rfl) HRS.out (by rfl) (by kernel_rfl) (by intro u hu; simp at hu; rcases hu with rfl | rfl | rfl <;> rfl) ?_; intro w9 k1 k2))
        refine door_ok (dp := dp + 1) (HS2.out.only k2 (fun k hk e => by omega)) (by omega) (by omega) (fun w' h6 o6 => ?_)
        have hB9 := (o6.block B (Array.getElem?_eq_some_iff.1 k1).1 (by omega)).trans k1
        obtain ⟨y0, y1, y2, -⟩ := box3 hB9
        refine ⟨.agg #[.string ⟨s.toArray⟩, .slice none 0 0, .bool bb], by simp [results, Tryz.results72, go_sem, y0, y1, y2], FO.out _ rz w' _ HFIN.out ⟨_, rfl, ?_⟩ (by rw [show dp = dp + 1 - 1 from by omega]; exact h6) ((HOS.out.trans' k2 (fun q hq e => by omega)).trans o6)⟩
        exact CellsAt.weaken (fun q _ hq => by omega) _ _ (CellsAt.only o6 (fun k hk e => by omega) _ _ (CellsAt.only k2 (fun k hk e => by omega) _ _ HCS.out))
    · rw [ht] at T
      have hstep : typP (d + 1) r = (typP d r.tail).bind fun t r1 => (wantP [93] r1).bind fun _ r2 => bangP (.ls t) r2 := by rw [typP, if_pos ht]
      have HS := Lib.hid hstep; clear hstep ht
      go_wp2_with fail
      refine T.out.mono ?_
      rintro e w4 ⟨rfl, h4, o4⟩
      have hb4 := (o4.block X (Array.getElem?_eq_some_iff.1 HB3.out).1 (by omega)).trans HB3.out
      have hr4 := (o4.block B (Array.getElem?_eq_some_iff.1 HR3.out).1 (by omega)).trans HR3.out
      have H4 := Lib.hid h4; have HB4 := Lib.hid hb4; have HR4 := Lib.hid hr4; have HO4 := Lib.hid (HO3.out.trans o4)
      have hs4 : X < w4.heap.size := (Array.getElem?_eq_some_iff.1 hb4).1
      clear h4 hb4 hr4 o4 T
      have J := Lib.hid (IH.out b all r.tail w4 H4.out)
      cases hq : typP d r.tail with
      | bad a c =>
        rw [hq] at J
        have HE := Lib.hid (HS.out.trans (bind_bad hq)); clear hq
        go_wp2_with fail
        refine J.out.mono ?_
        rintro e w5 ⟨rfl, ⟨r', dp', h5, ha, l1, l2⟩, o5⟩
        have HO5 := Lib.hid (HO4.out.trans o5)
        exact door_bad h5 (by omega) (by omega) (fun w' h6 o6 => FB.out a c w' r' (dp' - 1) HE.out h6 ha (by omega) (by omega) (HO5.out.trans o6))
      | ok t r1 =>
        rw [hq] at J
        have HE := Lib.hid (HS.out.trans (bind_ok hq)); clear hq
        go_wp2_with fail
        refine J.out.mono ?_
        rintro e w5 ⟨v, rfl, ⟨cs, rfl, hcs⟩, h5, o5⟩
        obtain ⟨x, y, z, rfl, y1, y2, y3⟩ := trC_form hcs
        have hb5 := (o5.block X (Array.getElem?_eq_some_iff.1 HB4.out).1 (by omega)).trans HB4.out
        have hr5 := (o5.block B (Array.getElem?_eq_some_iff.1 HR4.out).1 (by omega)).trans HR4.out
        obtain ⟨g, hg⟩ : ∃ g, w5.heap.size = g := ⟨_, rfl⟩
        have hXg : X < g := by rw [← hg]; exact (Array.getElem?_eq_some_iff.1 hb5).1
        have hn := heap_new w5 (.cells [x, y, z].toArray 40)
        rw [hg] at hn
        have hb6 := heap_old hb5 (.cells [x, y, z].toArray 40)
        have hr6 := heap_old hr5 (.cells [x, y, z].toArray 40)
        have o6 := (Only.refl (fun _ => False) w5).alloc (.cells [x, y, z].toArray 40)
        have h6 := h5.still o6
        have HO6 := Lib.hid ((HO4.out.trans o5).alloc (.cells [x, y, z].toArray 40))
        have hc6 := CellsAt.only o6 (fun _ _ h => h) _ _ hcs
        obtain ⟨z0, z1, z2, fz⟩ := box3 hb6
        have HG := Lib.hid hg; have H6 := Lib.hid h6; have HN := Lib.hid hn; have HB6 := Lib.hid hb6; have HR6 := Lib.hid hr6; have HC6 := Lib.hid hc6
        have hb7 := heap_set (o := 1) hb6 (.slice (some ⟨g, 0, none⟩) 1 1)
        have hr7 := heap_set_ne (a := ⟨X, 1, none⟩) hr6 (by show B ≠ X; omega) (.slice (some ⟨g, 0, none⟩) 1 1)
        have hn7 := heap_set_ne (a := ⟨X, 1, none⟩) hn (by show g ≠ X; omega) (.slice (some ⟨g, 0, none⟩) 1 1)
        have o7 := (Only.refl (fun k => k = X) (w5.alloc (.cells [x, y, z].toArray 40))).setCell (p := ⟨X, 1, none⟩) (.inl rfl) (.slice (some ⟨g, 0, none⟩) 1 1)
        have ho7 := HO6.out.setCell (p := ⟨X, 1, none⟩) (.inr (by show w.heap.size ≤ X; omega)) (.slice (some ⟨g, 0, none⟩) 1 1)
        have h7 := H6.out.only o7 (fun k hk e => by omega)
        have hc7 := CellsAt.weaken (G' := fun q => X < q) (fun q hq hg => by omega) _ _ (CellsAt.only (G := fun q => w4.heap.size ≤ q) o7 (fun k hk e => by omega) _ _ HC6.out)
        have hcell : CellAt ((w5.alloc (.cells [x, y, z].toArray 40)).setCell ⟨X, 1, none⟩ (.slice (some ⟨g, 0, none⟩) 1 1)) (fun q => X < q) (.row 3 [trC t]) (.slice (some ⟨g, 0, none⟩) 1 1) := by
          simp only [CellAt]
          refine ⟨_, 1, rfl, by simp, by decide, fun _ => ⟨g, 0, rfl, by omega, (Array.getElem?_eq_some_iff.1 hn7).1, ?_⟩⟩
          simp only [RowsAt, and_true]
          exact ⟨[x, y, z], rfl, range_of_block hn7, hc7⟩
        have H7 := Lib.hid h7; have HB7 := Lib.hid hb7; have HR7 := Lib.hid hr7; have HO7 := Lib.hid ho7; have HCL := Lib.hid hcell
        clear hg hn hb6 hr6 o6 h6 hc6 hb5 hr5 o5 hcs h5 hb7 hr7 hn7 o7 ho7 h7 hc7 hcell H6 HN HB6 HR6 HC6 HO6
        go_upto_region 6 with (fail)
        rw [HG.out]
        obtain ⟨w7, hw7⟩ : ∃ w7, ((w5.alloc (.cells [x, y, z].toArray 40)).setCell ⟨X, 1, none⟩ (.slice (some ⟨g, 0, none⟩) 1 1)) = w7 := ⟨_, rfl⟩
        rw [hw7] at H7 HB7 HR7 HO7 HCL
        rw [hw7]
        clear hw7
        have WT := Lib.hid (want_any b all r1 (dp + 1) [93] w7 H7.out)
        cases hw : wantP [93] r1 with
        | bad a c =>
          rw [hw] at WT
          have HF := Lib.hid (HE.out.trans (bind_bad hw)); clear hw
          go_wp2_with fail
          refine WT.out.mono ?_
          rintro e w8 ⟨rfl, ⟨r', dp', h8, ha, l1, l2⟩, o8⟩
          have HO8 := Lib.hid (HO7.out.trans o8)
          exact door_bad h8 (by omega) (by omega) (fun w' h6 o6 => FB.out a c w' r' (dp' - 1) HF.out h6 ha (by omega) (by omega) (HO8.out.trans o6))
        | ok u r2 =>
          rw [hw] at WT
          have HF := Lib.hid (HE.out.trans (bind_ok hw)); clear hw
          go_wp2_with fail
          refine WT.out.mono ?_
          rintro e w8 ⟨v, rfl, hv, h8, o8⟩
          have hv : v = .tuple #[] := hv
          subst hv
          have hb8 := (o8.block X (Array.getElem?_eq_some_iff.1 HB7.out).1 (by omega)).trans HB7.out
          have hr8 := (o8.block B (Array.getElem?_eq_some_iff.1 HR7.out).1 (by omega)).trans HR7.out
          have hcl8 := CellAt.only o8 (fun k hk e => by omega) _ _ HCL.out
          have Hw8 := Lib.hid h8; have HBw8 := Lib.hid hb8; have HRw8 := Lib.hid hr8; have HOw8 := Lib.hid (HO7.out.trans o8); have HC8 := Lib.hid hcl8
          clear h8 hb8 hr8 hcl8 o8 WT
          have T2 := Lib.hid (take_any b all r2 (dp + 1) [33] w8 Hw8.out)
          unfold tookP at T2
          obtain ⟨bb, hbb⟩ : ∃ bb, isT [33] r2 = bb := ⟨_, rfl⟩
          obtain ⟨rz, hrz⟩ : ∃ rz, (if isT [33] r2 = true then r2.tail else r2) = rz := ⟨_, rfl⟩
          have hbang : bangP (TR.ls t) r2 = .ok (TR.ls t bb) rz := by unfold bangP; rw [← hrz, ← hbb]; cases isT [33] r2 <;> rfl
          rw [hrz, hbb] at T2
          have hfin := HF.out.trans hbang
          have HFIN := Lib.hid hfin; clear hbb hrz hbang hfin
          go_wp2_with fail
          refine T2.out.mono ?_
          rintro e wB ⟨rfl, hB, oB⟩
          have hbB' := (oB.block X (Array.getElem?_eq_some_iff.1 HBw8.out).1 (by omega)).trans HBw8.out
          have hrB := (oB.block B (Array.getElem?_eq_some_iff.1 HRw8.out).1 (by omega)).trans HRw8.out
          have hbs := heap_set (o := 2) hbB' (.bool bb)
          have hrs := heap_set_ne (a := ⟨X, 2, none⟩) hrB (by show B ≠ X; omega) (.bool bb)
          have hXs : Only (fun k => k = X) wB (wB.setCell ⟨X, 2, none⟩ (.bool bb)) := (Only.refl (fun k => k = X) wB).setCell (.inl rfl) _
          have hOs : Only (fun k => k = b) w (wB.setCell ⟨X, 2, none⟩ (.bool bb)) := (HOw8.out.trans oB).setCell (.inr (by show w.heap.size ≤ X; omega)) _
          have hs2 := hB.only hXs (fun k hk e => by omega)
          obtain ⟨z0, z1, z2, fz⟩ := box3 hbB'
          have HCS := Lib.hid (show CellsAt (wB.setCell ⟨X, 2, none⟩ (.bool bb)) (fun q => X < q) (trC (.ls t bb)) [.string ⟨#[]⟩, .slice (some ⟨g, 0, none⟩) 1 1, .bool bb] from by
            rw [trC]
            exact CellsAt.lit rfl (CellsAt.cons (CellAt.only hXs (fun k hk e => by omega) _ _ (CellAt.only oB (fun k hk e => by omega) _ _ HC8.out)) (CellsAt.lit rfl (CellsAt.nil _ _))))
          have HBS := Lib.hid hbs; have HRS := Lib.hid hrs; have HOS := Lib.hid hOs; have HS2 := Lib.hid hs2
          clear hbs hrs hOs hs2 hXs hbB' hrB oB hB T2
          go_upto_region 9 with (fail)
          clear z0 z1 z2 fz
          obtain ⟨wS, hwS⟩ : ∃ wS, wB.setCell ⟨X, 2, none⟩ (.bool bb) = wS := ⟨_, rfl⟩
          rw [hwS] at HBS HRS HOS HS2 HCS
          rw [hwS]
          clear hwS
          obtain ⟨z0, z1, z2, fz⟩ := box3 (show wS.heap[X]? = some (.cells #[.string ⟨#[]⟩, .slice (some ⟨g, 0, none⟩) 1 1, .bool bb] 40 (0, 0)) from by simpa using HBS.out)
          go_wp2_with ((refine wpList_store_box (o := ⟨none, _, _, _, _, _⟩) rfl 40 (.tmp 2) (.tmp 21) (by rfl) B [.string ⟨#[]⟩, .slice none 0 0, .bool false] [.string ⟨#[]⟩, .slice (some ⟨g, 0, none⟩) 1 1, .bool bb] (by rfl) (by rfl) HRS.out (by rfl) (by kernel_rfl) (by intro u hu; simp at hu; rcases hu with rfl | rfl | rfl <;> rfl) ?_; intro w9 k1 k2))
          refine door_ok (dp := dp + 1) (HS2.out.only k2 (fun k hk e => by omega)) (by omega) (by omega) (fun w' h6 o6 => ?_)
          have hB9 := (o6.block B (Array.getElem?_eq_some_iff.1 k1).1 (by omega)).trans k1
          obtain ⟨y0, y1, y2, -⟩ := box3 hB9
          refine ⟨.agg #[.string ⟨#[]⟩, .slice (some ⟨g, 0, none⟩) 1 1, .bool bb], by simp [results, Tryz.results72, go_sem, y0, y1, y2], FO.out _ rz w' _ HFIN.out ⟨_, rfl, ?_⟩ (by rw [show dp = dp + 1 - 1 from by omega]; exact h6) ((HOS.out.trans' k2 (fun q hq e => by omega)).trans o6)⟩
          exact CellsAt.weaken (fun q _ hq => by omega) _ _ (CellsAt.only o6 (fun k hk e => by omega) _ _ (CellsAt.only k2 (fun k hk e => by omega) _ _ HCS.out))
end Go.Proofs.YtgephneppgcnlaaGreatDoor
