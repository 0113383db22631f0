/- sdl.reader: an input, a field. -/
import Derived.Test.YtgephneppgcnlaaGreatDoorSdL
namespace Go.Proofs.YtgephneppgcnlaaGreatDoor
open Go Go.RowKit
set_option linter.unusedVariables false
set_option linter.unusedSimpArgs false

set_option maxRecDepth 100000 in
set_option maxHeartbeats 8000000 in
theorem sinput_any (b : Nat) (all : List Tok) (σ0 : PR Unit) (w : World) (h : Sd w b all σ0) :
    Calls Tryz.prog 26 #[.pointer (some ⟨b, 0, none⟩)] w (SAns w b all σ0 (fun w' x v => aggP w.heap.size inC w' x v) fdJ inP) := by
  have hbl := h.lt
  obtain ⟨B, hB⟩ : ∃ B, w.heap.size = B := ⟨_, rfl⟩
  have hbB : b < B := by omega
  obtain ⟨total, htot⟩ : ∃ x, (σ0.bind fun _ => inP) = x := ⟨_, rfl⟩
  have hj := Jn.start σ0 inP
  rw [htot] at hj
  have HP : ∀ w' v, fdJ v → Sd w' b all total.unit → (∀ x q, total = .ok x q → aggP B inC w' x v) → Only (fun k => k = b) w w' → SAns w b all σ0 (fun w' x v => aggP w.heap.size inC w' x v) fdJ inP (.returned v) w' := fun w' v q1 q2 q3 q4 => ⟨v, rfl, q1, by rw [htot]; exact q2, fun x q e => by rw [hB]; exact q3 x q (by rw [← htot]; exact e), q4⟩
  unfold inP at hj
  obtain ⟨w0, hw0⟩ : ∃ w0, w.alloc (.cells #[.string ⟨#[]⟩, .slice none 0 0, .string ⟨#[]⟩, .slice none 0 0, .bool false, .bool false, .int .u8 0, .int .i64 0, .string ⟨#[]⟩, .slice none 0 0, .slice none 0 0] 42) = w0 := ⟨_, rfl⟩
  have hr0 : w0.heap[B]? = some (.cells #[.string ⟨#[]⟩, .slice none 0 0, .string ⟨#[]⟩, .slice none 0 0, .bool false, .bool false, .int .u8 0, .int .i64 0, .string ⟨#[]⟩, .slice none 0 0, .slice none 0 0] 42 (0, 0)) := by rw [← hw0, ← hB]; exact heap_new _ _
  have ho0 : Only (fun k => k = b) w w0 := by rw [← hw0]; exact (Only.refl _ w).alloc _
  have h0 : Sd w0 b all σ0 := by rw [← hw0]; exact h.still ((Only.refl (fun _ => False) w).alloc _)
  have HPP := Lib.hid HP; have HJ0 := Lib.hid hj; have HR0 := Lib.hid hr0; have HD0 := Lib.hid h0; have HO0 := Lib.hid ho0; have HW0 := Lib.hid hw0; have HBB := Lib.hid hB; have HWB := Lib.hid (show w.heap.size ≤ B by omega)
  clear HP hj hr0 h0 ho0 hw0 htot h
  generalize (SAns w b all σ0 (fun w' x v => aggP w.heap.size inC w' x v) fdJ inP) = Q at *
  clear hB hbl
  go_enter Tryz.func26, Tryz.ntmps26
  go_upto_region 1 with (fail)
  rw [HBB.out, HW0.out]
  clear HW0 HBB
  have J := Lib.hid (sname_any b all σ0 w0 HD0.out)
  go_wp2_with fail
  refine J.out.mono ?_
  rintro e w1 ⟨v, rfl, ⟨s1, rfl⟩, hd, hv, o4⟩
  have hv : ∀ x q, (σ0.bind fun _ => nameP) = .ok x q → s1 = x := fun x q e => str_inj (hv x q e)
  obtain ⟨σ1, hσ⟩ : ∃ z, (σ0.bind fun _ => nameP).unit = z := ⟨_, rfl⟩
  rw [hσ] at hd
  have hj := Jn.call (fun x => s1 = x) HJ0.out hσ.symm hv
  have HJ1 := Lib.hid hj; have HD1 := Lib.hid hd
  clear hj hd hv hσ HJ0 J
  have hr1 := (o4.block B (Array.getElem?_eq_some_iff.1 HR0.out).1 (by omega)).trans HR0.out
  have HR1 := Lib.hid hr1
  have HO1 := Lib.hid (HO0.out.trans' o4 (fun q hq e => by exact e))
  clear hr1
  clear o4
  clear HR0 HO0 HD0
  have hsz2 : B < w1.heap.size := (Array.getElem?_eq_some_iff.1 HR1.out).1
  obtain ⟨Y, hY⟩ : ∃ Y, w1.heap.size = Y := ⟨_, rfl⟩
  obtain ⟨w2, hw2⟩ : ∃ x, w1.alloc (.cells #[.string ⟨s1.toArray⟩, .slice none 0 0, .string ⟨#[]⟩, .slice none 0 0, .bool false, .bool false, .int .u8 0, .int .i64 0, .string ⟨#[]⟩, .slice none 0 0, .slice none 0 0] 42) = x := ⟨_, rfl⟩
  have hy2 : w2.heap[Y]? = some (.cells #[.string ⟨s1.toArray⟩, .slice none 0 0, .string ⟨#[]⟩, .slice none 0 0, .bool false, .bool false, .int .u8 0, .int .i64 0, .string ⟨#[]⟩, .slice none 0 0, .slice none 0 0] 42 (0, 0)) := by rw [← hw2, ← hY]; exact heap_new _ _
  have hr2 : w2.heap[B]? = some (.cells #[.string ⟨#[]⟩, .slice none 0 0, .string ⟨#[]⟩, .slice none 0 0, .bool false, .bool false, .int .u8 0, .int .i64 0, .string ⟨#[]⟩, .slice none 0 0, .slice none 0 0] 42 (0, 0)) := by rw [← hw2]; exact heap_old HR1.out _
  have oa2 : Only (fun _ => False) w1 w2 := by rw [← hw2]; exact (Only.refl _ _).alloc _
  rw [hY] at hsz2
  have HY2 := Lib.hid hy2; have HR2 := Lib.hid hr2; have HD2 := Lib.hid (HD1.out.still oa2); have HO2 := Lib.hid (HO1.out.trans' oa2 (fun q _ e => e.elim)); have HW2 := Lib.hid hw2; have HYY := Lib.hid hY; have HJ2 := HJ1
  clear hy2 hr2 hw2 hY oa2 HR1 HD1 HO1 HJ1
  go_upto_region 2 with (fail)
  rw [HYY.out, HW2.out]
  clear HYY HW2
  have J := Lib.hid (swant_any b all σ1 [58] w2 HD2.out)
  go_wp2_with fail
  refine J.out.mono ?_
  rintro e w3 ⟨rfl, hd, o4⟩
  have hv : ∀ x q, (σ1.bind fun _ => wantP [58]) = .ok x q → True := fun _ _ _ => trivial
  obtain ⟨σ3, hσ⟩ : ∃ z, (σ1.bind fun _ => wantP [58]).unit = z := ⟨_, rfl⟩
  rw [hσ] at hd
  have hj := Jn.call (fun _ => True) HJ2.out hσ.symm hv
  have HJ3 := Lib.hid hj; have HD3 := Lib.hid hd
  clear hj hd hv hσ HJ2 J
  have hr3 := (o4.block B (Array.getElem?_eq_some_iff.1 HR2.out).1 (by omega)).trans HR2.out
  have HR3 := Lib.hid hr3
  have hy3 := (o4.block Y (Array.getElem?_eq_some_iff.1 HY2.out).1 (by omega)).trans HY2.out
  have HY3 := Lib.hid hy3
  have HO3 := Lib.hid (HO2.out.trans' o4 (fun q hq e => by exact e))
  clear hr3 hy3
  clear o4
  clear HR2 HO2 HD2 HY2
  have J := Lib.hid (styp_any b all σ3 w3 HD3.out)
  go_wp2_with fail
  refine J.out.mono ?_
  rintro e w4 ⟨v, rfl, ⟨st, at1, lt1, et1, bt1, rfl⟩, hd, hv, o4⟩
  have hsy : Y < w3.heap.size := (Array.getElem?_eq_some_iff.1 HY3.out).1
  have hv : ∀ x q, (σ3.bind fun _ => typP 24) = .ok x q → CellsAt w4 (fun q => Y < q) (trC x) [.string ⟨st.toArray⟩, .slice at1 lt1 et1, .bool bt1] := fun x q e => CellsAt.weaken (fun q _ h => by have h : w3.heap.size ≤ q := h; show Y < q; omega) _ _ (agg_cells (hv x q e))
  obtain ⟨σ4, hσ⟩ : ∃ z, (σ3.bind fun _ => typP 24).unit = z := ⟨_, rfl⟩
  rw [hσ] at hd
  have hj := Jn.call (fun x => CellsAt w4 (fun q => Y < q) (trC x) [.string ⟨st.toArray⟩, .slice at1 lt1 et1, .bool bt1]) HJ3.out hσ.symm hv
  have HJ4 := Lib.hid hj; have HD4 := Lib.hid hd
  clear hj hd hv hσ HJ3 J hsy
  have hr4 := (o4.block B (Array.getElem?_eq_some_iff.1 HR3.out).1 (by omega)).trans HR3.out
  have HR4 := Lib.hid hr4
  have hy4 := (o4.block Y (Array.getElem?_eq_some_iff.1 HY3.out).1 (by omega)).trans HY3.out
  have HY4 := Lib.hid hy4
  have HO4 := Lib.hid (HO3.out.trans' o4 (fun q hq e => by exact e))
  clear hr4 hy4
  have HC4_4 := Lib.hid (Only.refl (fun k => k ≤ Y) w4)
  clear o4
  clear HR3 HO3 HD3 HY3
  go_upto_region 4 with ((refine wpList_store_part (o := ⟨none, _, _, _, _, _⟩) rfl 40 (.tmp 11) (.tmp 10) (by rfl) Y 2 42 [.string ⟨s1.toArray⟩, .slice none 0 0] [.string ⟨#[]⟩, .slice none 0 0, .bool false] [.string ⟨st.toArray⟩, .slice at1 lt1 et1, .bool bt1] [.bool false, .int .u8 0, .int .i64 0, .string ⟨#[]⟩, .slice none 0 0, .slice none 0 0] (by rfl) (by rfl) HY4.out (by rfl) (by rfl) (by kernel_rfl) (by intro u hu; simp at hu; rcases hu with rfl | rfl | rfl <;> rfl) ?_; intro w5 k1 k2))
  have hy5 : w5.heap[Y]? = some (.cells #[.string ⟨s1.toArray⟩, .slice none 0 0, .string ⟨st.toArray⟩, .slice at1 lt1 et1, .bool bt1, .bool false, .int .u8 0, .int .i64 0, .string ⟨#[]⟩, .slice none 0 0, .slice none 0 0] 42 (0, 0)) := k1
  have HY5 := Lib.hid hy5
  have HD5 := Lib.hid (HD4.out.only k2 (fun k hk e => by omega)); have HJ5 := HJ4
  have hr5 := (k2.block B (Array.getElem?_eq_some_iff.1 HR4.out).1 (by omega)).trans HR4.out
  have HR5 := Lib.hid hr5
  have HC4_5 := Lib.hid (HC4_4.out.trans' k2 (fun q hq e => by have e : q = Y := e; show q ≤ Y; omega))
  have HO5 := Lib.hid (HO4.out.trans' k2 (fun q hq e => by have e : q = Y := e; have := HWB.out; omega))
  clear hr5
  clear hy5 k1 k2 HJ4
  clear HR4 HO4 HD4 HY4 HC4_4
  have J := Lib.hid (stake_any b all σ4 [61] w5 HD5.out)
  unfold tookS at J
  obtain ⟨bb6, hb6⟩ : ∃ x, tst σ4 (isT [61]) = x := ⟨_, rfl⟩
  rw [hb6] at J
  have HBT := Lib.hid hb6; clear hb6
  cases bb6
  ·
    rw [if_neg (by decide)] at J
    go_wp2_with fail
    refine J.out.mono ?_
    rintro e w6 ⟨rfl, hd, o4⟩
    have HJ6 := Lib.hid (HJ5.out.no HBT.out)
    have HD6 := Lib.hid hd
    clear HJ5 hd HBT J
    have hr6 := (o4.block B (Array.getElem?_eq_some_iff.1 HR5.out).1 (by omega)).trans HR5.out
    have HR6 := Lib.hid hr6
    have hy6 := (o4.block Y (Array.getElem?_eq_some_iff.1 HY5.out).1 (by omega)).trans HY5.out
    have HY6 := Lib.hid hy6
    have HC4_6 := Lib.hid (HC4_5.out.trans' o4 (fun q hq e => by have e : q = b := e; show q ≤ Y; omega))
    have HO6 := Lib.hid (HO5.out.trans' o4 (fun q hq e => by exact e))
    clear hr6 hy6
    clear o4
    clear HR5 HO5 HD5 HY5 HC4_5
    obtain ⟨y0, y1, y2, y3, y4, y5, y6, y7, y8, y9, y10, yz⟩ := boxN11 HY6.out
    go_upto_region 5 with (fail)
    clear y0 y1 y2 y3 y4 y5 y6 y7 y8 y9 y10 yz
    have hy7 := heap_set (o := 5) HY6.out (.bool false)
    have hy7 : (w6.setCell ⟨Y, 5, none⟩ (.bool false)).heap[Y]? = some (.cells #[.string ⟨s1.toArray⟩, .slice none 0 0, .string ⟨st.toArray⟩, .slice at1 lt1 et1, .bool bt1, .bool false, .int .u8 0, .int .i64 0, .string ⟨#[]⟩, .slice none 0 0, .slice none 0 0] 42 (0, 0)) := by simpa using hy7
    have os7 : Only (fun k => k = Y) w6 (w6.setCell ⟨Y, 5, none⟩ (.bool false)) := (Only.refl (fun k => k = Y) _).setCell (p := ⟨Y, 5, none⟩) (.inl rfl) _
    obtain ⟨w7, hw7⟩ : ∃ x, w6.setCell ⟨Y, 5, none⟩ (.bool false) = x := ⟨_, rfl⟩
    rw [hw7] at hy7 os7
    rw [hw7]
    clear hw7
    have HY7 := Lib.hid hy7; have HD7 := Lib.hid (HD6.out.only os7 (fun k hk e => by omega)); have HJ7 := HJ6
    have hr7 := (os7.block B (Array.getElem?_eq_some_iff.1 HR6.out).1 (by omega)).trans HR6.out
    have HR7 := Lib.hid hr7
    have HC4_7 := Lib.hid (HC4_6.out.trans' os7 (fun q hq e => by have e : q = Y := e; show q ≤ Y; omega))
    have HO7 := Lib.hid (HO6.out.trans' os7 (fun q hq e => by have e : q = Y := e; have := HWB.out; omega))
    clear hr7
    clear hy7 os7 HJ6
    clear HR6 HO6 HD6 HY6 HC4_6
    obtain ⟨y0, y1, y2, y3, y4, y5, y6, y7, y8, y9, y10, yz⟩ := boxN11 HY7.out
    go_upto_region 7 with (fail)
    clear y0 y1 y2 y3 y4 y5 y6 y7 y8 y9 y10 yz
    obtain ⟨y0, y1, y2, y3, y4, y5, y6, y7, y8, y9, y10, yz⟩ := boxN11 HY7.out
    go_wp2_with ((refine wpList_store_box (o := ⟨none, _, _, _, _, _⟩) rfl 42 (.tmp 2) (.tmp 20) (by rfl) B [.string ⟨#[]⟩, .slice none 0 0, .string ⟨#[]⟩, .slice none 0 0, .bool false, .bool false, .int .u8 0, .int .i64 0, .string ⟨#[]⟩, .slice none 0 0, .slice none 0 0] [.string ⟨s1.toArray⟩, .slice none 0 0, .string ⟨st.toArray⟩, .slice at1 lt1 et1, .bool bt1, .bool false, .int .u8 0, .int .i64 0, .string ⟨#[]⟩, .slice none 0 0, .slice none 0 0] (by rfl) (by rfl) HR7.out (by rfl) (by kernel_rfl) (by intro u hu; simp at hu; rcases hu with rfl | rfl | rfl | rfl | rfl | rfl | rfl | rfl | rfl | rfl | rfl <;> rfl) ?_; intro w9 k1 k2))
    clear y0 y1 y2 y3 y4 y5 y6 y7 y8 y9 y10 yz
    obtain ⟨y0, y1, y2, y3, y4, y5, y6, y7, y8, y9, y10, -⟩ := boxN11 k1
    obtain ⟨hdn, hxs⟩ := HJ7.out.done
    have hd9 : Sd w9 b all total.unit := by rw [← hdn]; exact HD7.out.only k2 (fun k hk e => by omega)
    have o4 := HC4_7.out.trans' k2 (fun q hq e => by have e : q = B := e; show q ≤ Y; omega)
    have hag : ∀ x q, total = .ok x q → aggP B inC w9 x (.agg #[.string ⟨s1.toArray⟩, .slice none 0 0, .string ⟨st.toArray⟩, .slice at1 lt1 et1, .bool bt1, .bool false, .int .u8 0, .int .i64 0, .string ⟨#[]⟩, .slice none 0 0, .slice none 0 0]) := fun x q e => by
      obtain ⟨⟨⟨⟨u, n1⟩, u2⟩, t1⟩, rfl, ⟨⟨⟨-, k1⟩, -⟩, k3⟩⟩ := hxs x q e
      subst k1
      exact ⟨_, rfl, CellsAt.lit rfl (CellsAt.cons (CellAt.nilRow _ _ _) (CellsAt.app (CellsAt.weaken (G' := fun q => B ≤ q) (fun q _ h => by have h : Y < q := h; show B ≤ q; omega) _ _ (CellsAt.only o4 (fun k hk e => by have hk : Y < k := hk; have e : k ≤ Y := e; omega) _ _ k3)) (CellsAt.lit rfl (leafC 0 0 []))))⟩
    exact bodyPost_ret (v := .agg #[.string ⟨s1.toArray⟩, .slice none 0 0, .string ⟨st.toArray⟩, .slice at1 lt1 et1, .bool bt1, .bool false, .int .u8 0, .int .i64 0, .string ⟨#[]⟩, .slice none 0 0, .slice none 0 0]) (by simp [results, Tryz.results26, go_sem, y0, y1, y2, y3, y4, y5, y6, y7, y8, y9, y10]) rfl (HPP.out w9 _ ⟨s1, none, 0, 0, st, at1, lt1, et1, bt1, false, 0, 0, [], none, 0, 0, none, 0, 0, rfl⟩ hd9 hag (HO7.out.trans' k2 (fun q hq e => by have := HWB.out; omega)))
  ·
    rw [if_pos rfl] at J
    go_wp2_with fail
    refine J.out.mono ?_
    rintro e w6 ⟨rfl, hd, o4⟩
    have HJ6 := Lib.hid (Jn.adv (F := fun (p : ((Unit × List UInt8) × Unit) × TR) r => (valueP true 24 r).bind fun v r4 => .ok (IN.mk p.1.1.2 p.2 true v) r4) (HJ5.out.yes HBT.out))
    obtain ⟨σ6, hσ⟩ : ∃ z, adv σ4 = z := ⟨_, rfl⟩
    rw [hσ] at hd HJ6
    clear hσ
    have HD6 := Lib.hid hd
    clear HJ5 hd HBT J
    have hr6 := (o4.block B (Array.getElem?_eq_some_iff.1 HR5.out).1 (by omega)).trans HR5.out
    have HR6 := Lib.hid hr6
    have hy6 := (o4.block Y (Array.getElem?_eq_some_iff.1 HY5.out).1 (by omega)).trans HY5.out
    have HY6 := Lib.hid hy6
    have HC4_6 := Lib.hid (HC4_5.out.trans' o4 (fun q hq e => by have e : q = b := e; show q ≤ Y; omega))
    have HO6 := Lib.hid (HO5.out.trans' o4 (fun q hq e => by exact e))
    clear hr6 hy6
    clear o4
    clear HR5 HO5 HD5 HY5 HC4_5
    obtain ⟨y0, y1, y2, y3, y4, y5, y6, y7, y8, y9, y10, yz⟩ := boxN11 HY6.out
    go_upto_region 5 with (fail)
    clear y0 y1 y2 y3 y4 y5 y6 y7 y8 y9 y10 yz
    have hy7 := heap_set (o := 5) HY6.out (.bool true)
    have hy7 : (w6.setCell ⟨Y, 5, none⟩ (.bool true)).heap[Y]? = some (.cells #[.string ⟨s1.toArray⟩, .slice none 0 0, .string ⟨st.toArray⟩, .slice at1 lt1 et1, .bool bt1, .bool true, .int .u8 0, .int .i64 0, .string ⟨#[]⟩, .slice none 0 0, .slice none 0 0] 42 (0, 0)) := by simpa using hy7
    have os7 : Only (fun k => k = Y) w6 (w6.setCell ⟨Y, 5, none⟩ (.bool true)) := (Only.refl (fun k => k = Y) _).setCell (p := ⟨Y, 5, none⟩) (.inl rfl) _
    obtain ⟨w7, hw7⟩ : ∃ x, w6.setCell ⟨Y, 5, none⟩ (.bool true) = x := ⟨_, rfl⟩
    rw [hw7] at hy7 os7
    rw [hw7]
    clear hw7
    have HY7 := Lib.hid hy7; have HD7 := Lib.hid (HD6.out.only os7 (fun k hk e => by omega)); have HJ7 := HJ6
    have hr7 := (os7.block B (Array.getElem?_eq_some_iff.1 HR6.out).1 (by omega)).trans HR6.out
    have HR7 := Lib.hid hr7
    have HC4_7 := Lib.hid (HC4_6.out.trans' os7 (fun q hq e => by have e : q = Y := e; show q ≤ Y; omega))
    have HO7 := Lib.hid (HO6.out.trans' os7 (fun q hq e => by have e : q = Y := e; have := HWB.out; omega))
    clear hr7
    clear hy7 os7 HJ6
    clear HR6 HO6 HD6 HY6 HC4_6
    obtain ⟨y0, y1, y2, y3, y4, y5, y6, y7, y8, y9, y10, yz⟩ := boxN11 HY7.out
    go_upto_region 6 with (fail)
    clear y0 y1 y2 y3 y4 y5 y6 y7 y8 y9 y10 yz
    have J := Lib.hid (sfixed_any b all σ6 w7 HD7.out)
    go_wp2_with fail
    refine J.out.mono ?_
    rintro e w8 ⟨v, rfl, ⟨kd, nm, sv, a1, l1, p1, a2, l2, p2, rfl⟩, hd, hv, o4⟩
    have hsy : Y < w7.heap.size := (Array.getElem?_eq_some_iff.1 HY7.out).1
    have hv : ∀ x q, (σ6.bind fun _ => valueP true 24) = .ok x q → CellsAt w8 (fun q => Y < q) (valC x) [.int .u8 (kd : Int), .int .i64 nm, .string ⟨sv.toArray⟩, .slice a1 l1 p1, .slice a2 l2 p2] := fun x q e => CellsAt.weaken (fun q _ h => by have h : w7.heap.size ≤ q := h; show Y < q; omega) _ _ (agg_cells (hv x q e))
    obtain ⟨σ8, hσ⟩ : ∃ z, (σ6.bind fun _ => valueP true 24).unit = z := ⟨_, rfl⟩
    rw [hσ] at hd
    have hj := Jn.call (fun x => CellsAt w8 (fun q => Y < q) (valC x) [.int .u8 (kd : Int), .int .i64 nm, .string ⟨sv.toArray⟩, .slice a1 l1 p1, .slice a2 l2 p2]) HJ7.out hσ.symm hv
    have HJ8 := Lib.hid hj; have HD8 := Lib.hid hd
    clear hj hd hv hσ HJ7 J hsy
    have hr8 := (o4.block B (Array.getElem?_eq_some_iff.1 HR7.out).1 (by omega)).trans HR7.out
    have HR8 := Lib.hid hr8
    have hy8 := (o4.block Y (Array.getElem?_eq_some_iff.1 HY7.out).1 (by omega)).trans HY7.out
    have HY8 := Lib.hid hy8
    have HC4_8 := Lib.hid (HC4_7.out.trans' o4 (fun q hq e => by have e : q = b := e; show q ≤ Y; omega))
    have HO8 := Lib.hid (HO7.out.trans' o4 (fun q hq e => by exact e))
    clear hr8 hy8
    have HC8_8 := Lib.hid (Only.refl (fun k => k ≤ Y) w8)
    clear o4
    clear HR7 HO7 HD7 HY7 HC4_7
    go_upto_region 7 with ((refine wpList_store_part (o := ⟨none, _, _, _, _, _⟩) rfl 37 (.tmp 19) (.tmp 18) (by rfl) Y 6 42 [.string ⟨s1.toArray⟩, .slice none 0 0, .string ⟨st.toArray⟩, .slice at1 lt1 et1, .bool bt1, .bool true] [.int .u8 0, .int .i64 0, .string ⟨#[]⟩, .slice none 0 0, .slice none 0 0] [.int .u8 (kd : Int), .int .i64 nm, .string ⟨sv.toArray⟩, .slice a1 l1 p1, .slice a2 l2 p2] [] (by rfl) (by rfl) HY8.out (by rfl) (by rfl) (by kernel_rfl) (by intro u hu; simp at hu; rcases hu with rfl | rfl | rfl | rfl | rfl <;> rfl) ?_; intro w9 k1 k2))
    have hy9 : w9.heap[Y]? = some (.cells #[.string ⟨s1.toArray⟩, .slice none 0 0, .string ⟨st.toArray⟩, .slice at1 lt1 et1, .bool bt1, .bool true, .int .u8 (kd : Int), .int .i64 nm, .string ⟨sv.toArray⟩, .slice a1 l1 p1, .slice a2 l2 p2] 42 (0, 0)) := k1
    have HY9 := Lib.hid hy9
    have HD9 := Lib.hid (HD8.out.only k2 (fun k hk e => by omega)); have HJ9 := HJ8
    have hr9 := (k2.block B (Array.getElem?_eq_some_iff.1 HR8.out).1 (by omega)).trans HR8.out
    have HR9 := Lib.hid hr9
    have HC4_9 := Lib.hid (HC4_8.out.trans' k2 (fun q hq e => by have e : q = Y := e; show q ≤ Y; omega))
    have HC8_9 := Lib.hid (HC8_8.out.trans' k2 (fun q hq e => by have e : q = Y := e; show q ≤ Y; omega))
    have HO9 := Lib.hid (HO8.out.trans' k2 (fun q hq e => by have e : q = Y := e; have := HWB.out; omega))
    clear hr9
    clear hy9 k1 k2 HJ8
    clear HR8 HO8 HD8 HY8 HC4_8 HC8_8
    obtain ⟨y0, y1, y2, y3, y4, y5, y6, y7, y8, y9, y10, yz⟩ := boxN11 HY9.out
    go_wp2_with ((refine wpList_store_box (o := ⟨none, _, _, _, _, _⟩) rfl 42 (.tmp 2) (.tmp 20) (by rfl) B [.string ⟨#[]⟩, .slice none 0 0, .string ⟨#[]⟩, .slice none 0 0, .bool false, .bool false, .int .u8 0, .int .i64 0, .string ⟨#[]⟩, .slice none 0 0, .slice none 0 0] [.string ⟨s1.toArray⟩, .slice none 0 0, .string ⟨st.toArray⟩, .slice at1 lt1 et1, .bool bt1, .bool true, .int .u8 (kd : Int), .int .i64 nm, .string ⟨sv.toArray⟩, .slice a1 l1 p1, .slice a2 l2 p2] (by rfl) (by rfl) HR9.out (by rfl) (by kernel_rfl) (by intro u hu; simp at hu; rcases hu with rfl | rfl | rfl | rfl | rfl | rfl | rfl | rfl | rfl | rfl | rfl <;> rfl) ?_; intro w9 k1 k2))
    clear y0 y1 y2 y3 y4 y5 y6 y7 y8 y9 y10 yz
    obtain ⟨y0, y1, y2, y3, y4, y5, y6, y7, y8, y9, y10, -⟩ := boxN11 k1
    obtain ⟨hdn, hxs⟩ := HJ9.out.done
    have hd9 : Sd w9 b all total.unit := by rw [← hdn]; exact HD9.out.only k2 (fun k hk e => by omega)
    have o4 := HC4_9.out.trans' k2 (fun q hq e => by have e : q = B := e; show q ≤ Y; omega)
    have o8 := HC8_9.out.trans' k2 (fun q hq e => by have e : q = B := e; show q ≤ Y; omega)
    have hag : ∀ x q, total = .ok x q → aggP B inC w9 x (.agg #[.string ⟨s1.toArray⟩, .slice none 0 0, .string ⟨st.toArray⟩, .slice at1 lt1 et1, .bool bt1, .bool true, .int .u8 (kd : Int), .int .i64 nm, .string ⟨sv.toArray⟩, .slice a1 l1 p1, .slice a2 l2 p2]) := fun x q e => by
      obtain ⟨⟨⟨⟨⟨u, n1⟩, u2⟩, t1⟩, v1⟩, rfl, ⟨⟨⟨⟨-, k1⟩, -⟩, k3⟩, k4⟩⟩ := hxs x q e
      subst k1
      exact ⟨_, rfl, CellsAt.lit rfl (CellsAt.cons (CellAt.nilRow _ _ _) (CellsAt.app (CellsAt.weaken (G' := fun q => B ≤ q) (fun q _ h => by have h : Y < q := h; show B ≤ q; omega) _ _ (CellsAt.only o4 (fun k hk e => by have hk : Y < k := hk; have e : k ≤ Y := e; omega) _ _ k3)) (CellsAt.lit rfl (CellsAt.weaken (G' := fun q => B ≤ q) (fun q _ h => by have h : Y < q := h; show B ≤ q; omega) _ _ (CellsAt.only o8 (fun k hk e => by have hk : Y < k := hk; have e : k ≤ Y := e; omega) _ _ k4)))))⟩
    exact bodyPost_ret (v := .agg #[.string ⟨s1.toArray⟩, .slice none 0 0, .string ⟨st.toArray⟩, .slice at1 lt1 et1, .bool bt1, .bool true, .int .u8 (kd : Int), .int .i64 nm, .string ⟨sv.toArray⟩, .slice a1 l1 p1, .slice a2 l2 p2]) (by simp [results, Tryz.results26, go_sem, y0, y1, y2, y3, y4, y5, y6, y7, y8, y9, y10]) rfl (HPP.out w9 _ ⟨s1, none, 0, 0, st, at1, lt1, et1, bt1, true, kd, nm, sv, a1, l1, p1, a2, l2, p2, rfl⟩ hd9 hag (HO9.out.trans' k2 (fun q hq e => by have := HWB.out; omega)))
def fdQ (s : List UInt8) (gs : List IN) (r : List Tok) : PR FD := (wantP [58] r).bind fun _ r3 => (typP 24 r3).bind fun t r4 => .ok ⟨s, gs, t, false, VT.zero⟩ r4
theorem fdP_fun : fdP = fun r => (nameP r).bind fun s r1 => if isT [40] r1 then (manyP inP [41] (r1.tail.length + 1) [] r1.tail).bind fun gs r2 => fdQ s gs r2 else fdQ s [] r1 := by
  funext r
  unfold fdP
  congr 1
  funext s r1
  by_cases hb : isT [40] r1 = true
  · have := isT_len hb
    rw [if_pos hb, if_pos hb, manyP_fuel inP_takes [41] (r1.length + 1) (r1.tail.length + 1) [] r1.tail (by omega) (by omega)]; rfl
  · rw [if_neg hb, if_neg hb]; rfl
set_option maxRecDepth 100000 in
set_option maxHeartbeats 8000000 in
theorem sfield_any (b : Nat) (all : List Tok) (σ0 : PR Unit) (w : World) (h : Sd w b all σ0) :
    Calls Tryz.prog 27 #[.pointer (some ⟨b, 0, none⟩)] w (SAns w b all σ0 (fun w' x v => aggP w.heap.size fdC w' x v) fdJ fdP) := by
  have hbl := h.lt
  obtain ⟨B, hB⟩ : ∃ B, w.heap.size = B := ⟨_, rfl⟩
  have hbB : b < B := by omega
  obtain ⟨total, htot⟩ : ∃ x, (σ0.bind fun _ => fdP) = x := ⟨_, rfl⟩
  have hj := Jn.start σ0 fdP
  rw [htot] at hj
  have HP : ∀ w' v, fdJ v → Sd w' b all total.unit → (∀ x q, total = .ok x q → aggP B fdC w' x v) → Only (fun k => k = b) w w' → SAns w b all σ0 (fun w' x v => aggP w.heap.size fdC w' x v) fdJ fdP (.returned v) w' := fun w' v q1 q2 q3 q4 => ⟨v, rfl, q1, by rw [htot]; exact q2, fun x q e => by rw [hB]; exact q3 x q (by rw [← htot]; exact e), q4⟩
  rw [fdP_fun] at hj
  obtain ⟨w0, hw0⟩ : ∃ w0, w.alloc (.cells #[.string ⟨#[]⟩, .slice none 0 0, .string ⟨#[]⟩, .slice none 0 0, .bool false, .bool false, .int .u8 0, .int .i64 0, .string ⟨#[]⟩, .slice none 0 0, .slice none 0 0] 42) = w0 := ⟨_, rfl⟩
  have hr0 : w0.heap[B]? = some (.cells #[.string ⟨#[]⟩, .slice none 0 0, .string ⟨#[]⟩, .slice none 0 0, .bool false, .bool false, .int .u8 0, .int .i64 0, .string ⟨#[]⟩, .slice none 0 0, .slice none 0 0] 42 (0, 0)) := by rw [← hw0, ← hB]; exact heap_new _ _
  have ho0 : Only (fun k => k = b) w w0 := by rw [← hw0]; exact (Only.refl _ w).alloc _
  have h0 : Sd w0 b all σ0 := by rw [← hw0]; exact h.still ((Only.refl (fun _ => False) w).alloc _)
  have HPP := Lib.hid HP; have HJ0 := Lib.hid hj; have HR0 := Lib.hid hr0; have HD0 := Lib.hid h0; have HO0 := Lib.hid ho0; have HW0 := Lib.hid hw0; have HBB := Lib.hid hB; have HWB := Lib.hid (show w.heap.size ≤ B by omega)
  clear HP hj hr0 h0 ho0 hw0 htot h
  generalize (SAns w b all σ0 (fun w' x v => aggP w.heap.size fdC w' x v) fdJ fdP) = Q at *
  clear hB hbl
  go_enter Tryz.func27, Tryz.ntmps27
  go_upto_region 1 with (fail)
  rw [HBB.out, HW0.out]
  clear HW0 HBB
  have hmf : ∀ (fn : Fn) (first cap : Array Value) (w : World), (Instr.makeFunc fn first cap).run Tryz.prog w = .ok (.func fn first cap) w := fun _ _ _ _ => rfl
  have J := Lib.hid (sname_any b all σ0 w0 HD0.out)
  go_wp2_with fail
  refine J.out.mono ?_
  rintro e w1 ⟨v, rfl, ⟨s1, rfl⟩, hd, hv, o4⟩
  have hv : ∀ x q, (σ0.bind fun _ => nameP) = .ok x q → s1 = x := fun x q e => str_inj (hv x q e)
  obtain ⟨σ1, hσ⟩ : ∃ z, (σ0.bind fun _ => nameP).unit = z := ⟨_, rfl⟩
  rw [hσ] at hd
  have hj := Jn.call (fun x => s1 = x) HJ0.out hσ.symm hv
  have HJ1 := Lib.hid hj; have HD1 := Lib.hid hd
  clear hj hd hv hσ HJ0 J
  have hr1 := (o4.block B (Array.getElem?_eq_some_iff.1 HR0.out).1 (by omega)).trans HR0.out
  have HR1 := Lib.hid hr1
  have HO1 := Lib.hid (HO0.out.trans' o4 (fun q hq e => by exact e))
  clear hr1
  clear o4
  clear HR0 HO0 HD0
  have hsz2 : B < w1.heap.size := (Array.getElem?_eq_some_iff.1 HR1.out).1
  obtain ⟨Y, hY⟩ : ∃ Y, w1.heap.size = Y := ⟨_, rfl⟩
  obtain ⟨w2, hw2⟩ : ∃ x, w1.alloc (.cells #[.string ⟨s1.toArray⟩, .slice none 0 0, .string ⟨#[]⟩, .slice none 0 0, .bool false, .bool false, .int .u8 0, .int .i64 0, .string ⟨#[]⟩, .slice none 0 0, .slice none 0 0] 42) = x := ⟨_, rfl⟩
  have hy2 : w2.heap[Y]? = some (.cells #[.string ⟨s1.toArray⟩, .slice none 0 0, .string ⟨#[]⟩, .slice none 0 0, .bool false, .bool false, .int .u8 0, .int .i64 0, .string ⟨#[]⟩, .slice none 0 0, .slice none 0 0] 42 (0, 0)) := by rw [← hw2, ← hY]; exact heap_new _ _
  have hr2 : w2.heap[B]? = some (.cells #[.string ⟨#[]⟩, .slice none 0 0, .string ⟨#[]⟩, .slice none 0 0, .bool false, .bool false, .int .u8 0, .int .i64 0, .string ⟨#[]⟩, .slice none 0 0, .slice none 0 0] 42 (0, 0)) := by rw [← hw2]; exact heap_old HR1.out _
  have oa2 : Only (fun _ => False) w1 w2 := by rw [← hw2]; exact (Only.refl _ _).alloc _
  rw [hY] at hsz2
  have HY2 := Lib.hid hy2; have HR2 := Lib.hid hr2; have HD2 := Lib.hid (HD1.out.still oa2); have HO2 := Lib.hid (HO1.out.trans' oa2 (fun q _ e => e.elim)); have HW2 := Lib.hid hw2; have HYY := Lib.hid hY; have HJ2 := HJ1
  clear hy2 hr2 hw2 hY oa2 HR1 HD1 HO1 HJ1
  go_upto_region 2 with (fail)
  rw [HYY.out, HW2.out]
  clear HYY HW2
  have J := Lib.hid (stake_any b all σ1 [40] w2 HD2.out)
  unfold tookS at J
  obtain ⟨bb3, hb3⟩ : ∃ x, tst σ1 (isT [40]) = x := ⟨_, rfl⟩
  rw [hb3] at J
  have HBT := Lib.hid hb3; clear hb3
  cases bb3
  ·
    rw [if_neg (by decide)] at J
    go_wp2_with fail
    refine J.out.mono ?_
    rintro e w3 ⟨rfl, hd, o4⟩
    have HJ3 := Lib.hid (HJ2.out.no HBT.out)
    have HD3 := Lib.hid hd
    clear HJ2 hd HBT J
    have hr3 := (o4.block B (Array.getElem?_eq_some_iff.1 HR2.out).1 (by omega)).trans HR2.out
    have HR3 := Lib.hid hr3
    have hy3 := (o4.block Y (Array.getElem?_eq_some_iff.1 HY2.out).1 (by omega)).trans HY2.out
    have HY3 := Lib.hid hy3
    have HO3 := Lib.hid (HO2.out.trans' o4 (fun q hq e => by exact e))
    clear hr3 hy3
    clear o4
    clear HR2 HO2 HD2 HY2
    have HJu := HJ3.out
    unfold fdQ at HJu
    clear HJ3
    have HJ3 := Lib.hid HJu; clear HJu
    have J := Lib.hid (swant_any b all σ1 [58] w3 HD3.out)
    go_wp2_with fail
    refine J.out.mono ?_
    rintro e w4 ⟨rfl, hd, o4⟩
    have hv : ∀ x q, (σ1.bind fun _ => wantP [58]) = .ok x q → True := fun _ _ _ => trivial
    obtain ⟨σ4, hσ⟩ : ∃ z, (σ1.bind fun _ => wantP [58]).unit = z := ⟨_, rfl⟩
    rw [hσ] at hd
    have hj := Jn.call (fun _ => True) HJ3.out hσ.symm hv
    have HJ4 := Lib.hid hj; have HD4 := Lib.hid hd
    clear hj hd hv hσ HJ3 J
    have hr4 := (o4.block B (Array.getElem?_eq_some_iff.1 HR3.out).1 (by omega)).trans HR3.out
    have HR4 := Lib.hid hr4
    have hy4 := (o4.block Y (Array.getElem?_eq_some_iff.1 HY3.out).1 (by omega)).trans HY3.out
    have HY4 := Lib.hid hy4
    have HO4 := Lib.hid (HO3.out.trans' o4 (fun q hq e => by exact e))
    clear hr4 hy4
    clear o4
    clear HR3 HO3 HD3 HY3
    have J := Lib.hid (styp_any b all σ4 w4 HD4.out)
    go_wp2_with fail
    refine J.out.mono ?_
    rintro e w5 ⟨v, rfl, ⟨st, at1, lt1, et1, bt1, rfl⟩, hd, hv, o4⟩
    have hsy : Y < w4.heap.size := (Array.getElem?_eq_some_iff.1 HY4.out).1
    have hv : ∀ x q, (σ4.bind fun _ => typP 24) = .ok x q → CellsAt w5 (fun q => Y < q) (trC x) [.string ⟨st.toArray⟩, .slice at1 lt1 et1, .bool bt1] := fun x q e => CellsAt.weaken (fun q _ h => by have h : w4.heap.size ≤ q := h; show Y < q; omega) _ _ (agg_cells (hv x q e))
    obtain ⟨σ5, hσ⟩ : ∃ z, (σ4.bind fun _ => typP 24).unit = z := ⟨_, rfl⟩
    rw [hσ] at hd
    have hj := Jn.call (fun x => CellsAt w5 (fun q => Y < q) (trC x) [.string ⟨st.toArray⟩, .slice at1 lt1 et1, .bool bt1]) HJ4.out hσ.symm hv
    have HJ5 := Lib.hid hj; have HD5 := Lib.hid hd
    clear hj hd hv hσ HJ4 J hsy
    have hr5 := (o4.block B (Array.getElem?_eq_some_iff.1 HR4.out).1 (by omega)).trans HR4.out
    have HR5 := Lib.hid hr5
    have hy5 := (o4.block Y (Array.getElem?_eq_some_iff.1 HY4.out).1 (by omega)).trans HY4.out
    have HY5 := Lib.hid hy5
    have HO5 := Lib.hid (HO4.out.trans' o4 (fun q hq e => by exact e))
    clear hr5 hy5
    have HC5_5 := Lib.hid (Only.refl (fun k => k ≤ Y) w5)
    clear o4
    clear HR4 HO4 HD4 HY4
    go_upto_region 6 with ((refine wpList_store_part (o := ⟨none, _, _, _, _, _⟩) rfl 40 (.tmp 18) (.tmp 17) (by rfl) Y 2 42 [.string ⟨s1.toArray⟩, .slice none 0 0] [.string ⟨#[]⟩, .slice none 0 0, .bool false] [.string ⟨st.toArray⟩, .slice at1 lt1 et1, .bool bt1] [.bool false, .int .u8 0, .int .i64 0, .string ⟨#[]⟩, .slice none 0 0, .slice none 0 0] (by rfl) (by rfl) HY5.out (by rfl) (by rfl) (by kernel_rfl) (by intro u hu; simp at hu; rcases hu with rfl | rfl | rfl <;> rfl) ?_; intro w6 k1 k2))
    have hy6 : w6.heap[Y]? = some (.cells #[.string ⟨s1.toArray⟩, .slice none 0 0, .string ⟨st.toArray⟩, .slice at1 lt1 et1, .bool bt1, .bool false, .int .u8 0, .int .i64 0, .string ⟨#[]⟩, .slice none 0 0, .slice none 0 0] 42 (0, 0)) := k1
    have HY6 := Lib.hid hy6
    have HD6 := Lib.hid (HD5.out.only k2 (fun k hk e => by omega)); have HJ6 := HJ5
    have hr6 := (k2.block B (Array.getElem?_eq_some_iff.1 HR5.out).1 (by omega)).trans HR5.out
    have HR6 := Lib.hid hr6
    have HC5_6 := Lib.hid (HC5_5.out.trans' k2 (fun q hq e => by have e : q = Y := e; show q ≤ Y; omega))
    have HO6 := Lib.hid (HO5.out.trans' k2 (fun q hq e => by have e : q = Y := e; have := HWB.out; omega))
    clear hr6
    clear hy6 k1 k2 HJ5
    clear HR5 HO5 HD5 HY5 HC5_5
    obtain ⟨y0, y1, y2, y3, y4, y5, y6, y7, y8, y9, y10, yz⟩ := boxN11 HY6.out
    go_wp2_with ((refine wpList_store_box (o := ⟨none, _, _, _, _, _⟩) rfl 42 (.tmp 2) (.tmp 19) (by rfl) B [.string ⟨#[]⟩, .slice none 0 0, .string ⟨#[]⟩, .slice none 0 0, .bool false, .bool false, .int .u8 0, .int .i64 0, .string ⟨#[]⟩, .slice none 0 0, .slice none 0 0] [.string ⟨s1.toArray⟩, .slice none 0 0, .string ⟨st.toArray⟩, .slice at1 lt1 et1, .bool bt1, .bool false, .int .u8 0, .int .i64 0, .string ⟨#[]⟩, .slice none 0 0, .slice none 0 0] (by rfl) (by rfl) HR6.out (by rfl) (by kernel_rfl) (by intro u hu; simp at hu; rcases hu with rfl | rfl | rfl | rfl | rfl | rfl | rfl | rfl | rfl | rfl | rfl <;> rfl) ?_; intro w9 k1 k2))
    clear y0 y1 y2 y3 y4 y5 y6 y7 y8 y9 y10 yz
    obtain ⟨y0, y1, y2, y3, y4, y5, y6, y7, y8, y9, y10, -⟩ := boxN11 k1
    obtain ⟨hdn, hxs⟩ := HJ6.out.done
    have hd9 : Sd w9 b all total.unit := by rw [← hdn]; exact HD6.out.only k2 (fun k hk e => by omega)
    have o5 := HC5_6.out.trans' k2 (fun q hq e => by have e : q = B := e; show q ≤ Y; omega)
    have hag : ∀ x q, total = .ok x q → aggP B fdC w9 x (.agg #[.string ⟨s1.toArray⟩, .slice none 0 0, .string ⟨st.toArray⟩, .slice at1 lt1 et1, .bool bt1, .bool false, .int .u8 0, .int .i64 0, .string ⟨#[]⟩, .slice none 0 0, .slice none 0 0]) := fun x q e => by
      obtain ⟨⟨⟨⟨u, n1⟩, u2⟩, t1⟩, rfl, ⟨⟨⟨-, k1⟩, -⟩, k3⟩⟩ := hxs x q e
      subst k1
      exact ⟨_, rfl, CellsAt.lit rfl (CellsAt.cons (CellAt.nilRow _ _ _) (CellsAt.app (CellsAt.weaken (G' := fun q => B ≤ q) (fun q _ h => by have h : Y < q := h; show B ≤ q; omega) _ _ (CellsAt.only o5 (fun k hk e => by have hk : Y < k := hk; have e : k ≤ Y := e; omega) _ _ k3)) (CellsAt.lit rfl (leafC 0 0 []))))⟩
    exact bodyPost_ret (v := .agg #[.string ⟨s1.toArray⟩, .slice none 0 0, .string ⟨st.toArray⟩, .slice at1 lt1 et1, .bool bt1, .bool false, .int .u8 0, .int .i64 0, .string ⟨#[]⟩, .slice none 0 0, .slice none 0 0]) (by simp [results, Tryz.results27, go_sem, y0, y1, y2, y3, y4, y5, y6, y7, y8, y9, y10]) rfl (HPP.out w9 _ ⟨s1, none, 0, 0, st, at1, lt1, et1, bt1, false, 0, 0, [], none, 0, 0, none, 0, 0, rfl⟩ hd9 hag (HO6.out.trans' k2 (fun q hq e => by have := HWB.out; omega)))
  ·
    rw [if_pos rfl] at J
    go_wp2_with fail
    refine J.out.mono ?_
    rintro e w3 ⟨rfl, hd, o4⟩
    have HJ3 := Lib.hid (Jn.adv (F := fun (p : Unit × List UInt8) r => (manyP inP [41] (r.length + 1) [] r).bind fun gs r2 => fdQ p.2 gs r2) (HJ2.out.yes HBT.out))
    obtain ⟨σ3, hσ⟩ : ∃ z, adv σ1 = z := ⟨_, rfl⟩
    rw [hσ] at hd HJ3
    clear hσ
    have HD3 := Lib.hid hd
    clear HJ2 hd HBT J
    have hr3 := (o4.block B (Array.getElem?_eq_some_iff.1 HR2.out).1 (by omega)).trans HR2.out
    have HR3 := Lib.hid hr3
    have hy3 := (o4.block Y (Array.getElem?_eq_some_iff.1 HY2.out).1 (by omega)).trans HY2.out
    have HY3 := Lib.hid hy3
    have HO3 := Lib.hid (HO2.out.trans' o4 (fun q hq e => by exact e))
    clear hr3 hy3
    clear o4
    clear HR2 HO2 HD2 HY2
    have J := Lib.hid (smanyI_any inP inP_takes b all σ3 [41] w3 HD3.out (fun wx σ' _ hd => sinput_any b all σ' wx hd))
    go_wp2_with fail
    refine J.out.mono ?_
    rintro e w4 ⟨v, rfl, ⟨ar4, lr4, cr4, rfl⟩, hd, hv, o4⟩
    have hsy : Y < w3.heap.size := (Array.getElem?_eq_some_iff.1 HY3.out).1
    have hv : ∀ x q, (σ3.bind fun _ => (fun r => manyP inP [41] (r.length + 1) [] r)) = .ok x q → CellAt w4 (fun q => Y < q) (.row 11 (x.map inC)) (.slice ar4 lr4 cr4) := fun x q e => CellAt.weaken (fun q _ h => by have h : w3.heap.size ≤ q := h; show Y < q; omega) _ _ (hv x q e)
    obtain ⟨σ4, hσ⟩ : ∃ z, (σ3.bind fun _ => (fun r => manyP inP [41] (r.length + 1) [] r)).unit = z := ⟨_, rfl⟩
    rw [hσ] at hd
    have hj := Jn.call (fun x => CellAt w4 (fun q => Y < q) (.row 11 (x.map inC)) (.slice ar4 lr4 cr4)) HJ3.out hσ.symm hv
    have HJ4 := Lib.hid hj; have HD4 := Lib.hid hd
    clear hj hd hv hσ HJ3 J hsy
    have hr4 := (o4.block B (Array.getElem?_eq_some_iff.1 HR3.out).1 (by omega)).trans HR3.out
    have HR4 := Lib.hid hr4
    have hy4 := (o4.block Y (Array.getElem?_eq_some_iff.1 HY3.out).1 (by omega)).trans HY3.out
    have HY4 := Lib.hid hy4
    have HO4 := Lib.hid (HO3.out.trans' o4 (fun q hq e => by exact e))
    clear hr4 hy4
    have HC4_4 := Lib.hid (Only.refl (fun k => k ≤ Y) w4)
    clear o4
    clear HR3 HO3 HD3 HY3
    obtain ⟨y0, y1, y2, y3, y4, y5, y6, y7, y8, y9, y10, yz⟩ := boxN11 HY4.out
    go_upto_region 4 with (fail)
    clear y0 y1 y2 y3 y4 y5 y6 y7 y8 y9 y10 yz
    have hy5 := heap_set (o := 1) HY4.out (.slice ar4 lr4 cr4)
    have hy5 : (w4.setCell ⟨Y, 1, none⟩ (.slice ar4 lr4 cr4)).heap[Y]? = some (.cells #[.string ⟨s1.toArray⟩, .slice ar4 lr4 cr4, .string ⟨#[]⟩, .slice none 0 0, .bool false, .bool false, .int .u8 0, .int .i64 0, .string ⟨#[]⟩, .slice none 0 0, .slice none 0 0] 42 (0, 0)) := by simpa using hy5
    have os5 : Only (fun k => k = Y) w4 (w4.setCell ⟨Y, 1, none⟩ (.slice ar4 lr4 cr4)) := (Only.refl (fun k => k = Y) _).setCell (p := ⟨Y, 1, none⟩) (.inl rfl) _
    obtain ⟨w5, hw5⟩ : ∃ x, w4.setCell ⟨Y, 1, none⟩ (.slice ar4 lr4 cr4) = x := ⟨_, rfl⟩
    rw [hw5] at hy5 os5
    rw [hw5]
    clear hw5
    have HY5 := Lib.hid hy5; have HD5 := Lib.hid (HD4.out.only os5 (fun k hk e => by omega)); have HJ5 := HJ4
    have hr5 := (os5.block B (Array.getElem?_eq_some_iff.1 HR4.out).1 (by omega)).trans HR4.out
    have HR5 := Lib.hid hr5
    have HC4_5 := Lib.hid (HC4_4.out.trans' os5 (fun q hq e => by have e : q = Y := e; show q ≤ Y; omega))
    have HO5 := Lib.hid (HO4.out.trans' os5 (fun q hq e => by have e : q = Y := e; have := HWB.out; omega))
    clear hr5
    clear hy5 os5 HJ4
    clear HR4 HO4 HD4 HY4 HC4_4
    have HJu := HJ5.out
    unfold fdQ at HJu
    clear HJ5
    have HJ5 := Lib.hid HJu; clear HJu
    have J := Lib.hid (swant_any b all σ4 [58] w5 HD5.out)
    go_wp2_with fail
    refine J.out.mono ?_
    rintro e w6 ⟨rfl, hd, o4⟩
    have hv : ∀ x q, (σ4.bind fun _ => wantP [58]) = .ok x q → True := fun _ _ _ => trivial
    obtain ⟨σ6, hσ⟩ : ∃ z, (σ4.bind fun _ => wantP [58]).unit = z := ⟨_, rfl⟩
    rw [hσ] at hd
    have hj := Jn.call (fun _ => True) HJ5.out hσ.symm hv
    have HJ6 := Lib.hid hj; have HD6 := Lib.hid hd
    clear hj hd hv hσ HJ5 J
    have hr6 := (o4.block B (Array.getElem?_eq_some_iff.1 HR5.out).1 (by omega)).trans HR5.out
    have HR6 := Lib.hid hr6
    have hy6 := (o4.block Y (Array.getElem?_eq_some_iff.1 HY5.out).1 (by omega)).trans HY5.out
    have HY6 := Lib.hid hy6
    have HC4_6 := Lib.hid (HC4_5.out.trans' o4 (fun q hq e => by have e : q = b := e; show q ≤ Y; omega))
    have HO6 := Lib.hid (HO5.out.trans' o4 (fun q hq e => by exact e))
    clear hr6 hy6
    clear o4
    clear HR5 HO5 HD5 HY5 HC4_5
    have J := Lib.hid (styp_any b all σ6 w6 HD6.out)
    go_wp2_with fail
    refine J.out.mono ?_
    rintro e w7 ⟨v, rfl, ⟨st, at1, lt1, et1, bt1, rfl⟩, hd, hv, o4⟩
    have hsy : Y < w6.heap.size := (Array.getElem?_eq_some_iff.1 HY6.out).1
    have hv : ∀ x q, (σ6.bind fun _ => typP 24) = .ok x q → CellsAt w7 (fun q => Y < q) (trC x) [.string ⟨st.toArray⟩, .slice at1 lt1 et1, .bool bt1] := fun x q e => CellsAt.weaken (fun q _ h => by have h : w6.heap.size ≤ q := h; show Y < q; omega) _ _ (agg_cells (hv x q e))
    obtain ⟨σ7, hσ⟩ : ∃ z, (σ6.bind fun _ => typP 24).unit = z := ⟨_, rfl⟩
    rw [hσ] at hd
    have hj := Jn.call (fun x => CellsAt w7 (fun q => Y < q) (trC x) [.string ⟨st.toArray⟩, .slice at1 lt1 et1, .bool bt1]) HJ6.out hσ.symm hv
    have HJ7 := Lib.hid hj; have HD7 := Lib.hid hd
    clear hj hd hv hσ HJ6 J hsy
    have hr7 := (o4.block B (Array.getElem?_eq_some_iff.1 HR6.out).1 (by omega)).trans HR6.out
    have HR7 := Lib.hid hr7
    have hy7 := (o4.block Y (Array.getElem?_eq_some_iff.1 HY6.out).1 (by omega)).trans HY6.out
    have HY7 := Lib.hid hy7
    have HC4_7 := Lib.hid (HC4_6.out.trans' o4 (fun q hq e => by have e : q = b := e; show q ≤ Y; omega))
    have HO7 := Lib.hid (HO6.out.trans' o4 (fun q hq e => by exact e))
    clear hr7 hy7
    have HC7_7 := Lib.hid (Only.refl (fun k => k ≤ Y) w7)
    clear o4
    clear HR6 HO6 HD6 HY6 HC4_6
    go_upto_region 6 with ((refine wpList_store_part (o := ⟨none, _, _, _, _, _⟩) rfl 40 (.tmp 18) (.tmp 17) (by rfl) Y 2 42 [.string ⟨s1.toArray⟩, .slice ar4 lr4 cr4] [.string ⟨#[]⟩, .slice none 0 0, .bool false] [.string ⟨st.toArray⟩, .slice at1 lt1 et1, .bool bt1] [.bool false, .int .u8 0, .int .i64 0, .string ⟨#[]⟩, .slice none 0 0, .slice none 0 0] (by rfl) (by rfl) HY7.out (by rfl) (by rfl) (by kernel_rfl) (by intro u hu; simp at hu; rcases hu with rfl | rfl | rfl <;> rfl) ?_; intro w8 k1 k2))
    have hy8 : w8.heap[Y]? = some (.cells #[.string ⟨s1.toArray⟩, .slice ar4 lr4 cr4, .string ⟨st.toArray⟩, .slice at1 lt1 et1, .bool bt1, .bool false, .int .u8 0, .int .i64 0, .string ⟨#[]⟩, .slice none 0 0, .slice none 0 0] 42 (0, 0)) := k1
    have HY8 := Lib.hid hy8
    have HD8 := Lib.hid (HD7.out.only k2 (fun k hk e => by omega)); have HJ8 := HJ7
    have hr8 := (k2.block B (Array.getElem?_eq_some_iff.1 HR7.out).1 (by omega)).trans HR7.out
    have HR8 := Lib.hid hr8
    have HC4_8 := Lib.hid (HC4_7.out.trans' k2 (fun q hq e => by have e : q = Y := e; show q ≤ Y; omega))
    have HC7_8 := Lib.hid (HC7_7.out.trans' k2 (fun q hq e => by have e : q = Y := e; show q ≤ Y; omega))
    have HO8 := Lib.hid (HO7.out.trans' k2 (fun q hq e => by have e : q = Y := e; have := HWB.out; omega))
    clear hr8
    clear hy8 k1 k2 HJ7
    clear HR7 HO7 HD7 HY7 HC4_7 HC7_7
    obtain ⟨y0, y1, y2, y3, y4, y5, y6, y7, y8, y9, y10, yz⟩ := boxN11 HY8.out
    go_wp2_with ((refine wpList_store_box (o := ⟨none, _, _, _, _, _⟩) rfl 42 (.tmp 2) (.tmp 19) (by rfl) B [.string ⟨#[]⟩, .slice none 0 0, .string ⟨#[]⟩, .slice none 0 0, .bool false, .bool false, .int .u8 0, .int .i64 0, .string ⟨#[]⟩, .slice none 0 0, .slice none 0 0] [.string ⟨s1.toArray⟩, .slice ar4 lr4 cr4, .string ⟨st.toArray⟩, .slice at1 lt1 et1, .bool bt1, .bool false, .int .u8 0, .int .i64 0, .string ⟨#[]⟩, .slice none 0 0, .slice none 0 0] (by rfl) (by rfl) HR8.out (by rfl) (by kernel_rfl) (by intro u hu; simp at hu; rcases hu with rfl | rfl | rfl | rfl | rfl | rfl | rfl | rfl | rfl | rfl | rfl <;> rfl) ?_; intro w9 k1 k2))
    clear y0 y1 y2 y3 y4 y5 y6 y7 y8 y9 y10 yz
    obtain ⟨y0, y1, y2, y3, y4, y5, y6, y7, y8, y9, y10, -⟩ := boxN11 k1
    obtain ⟨hdn, hxs⟩ := HJ8.out.done
    have hd9 : Sd w9 b all total.unit := by rw [← hdn]; exact HD8.out.only k2 (fun k hk e => by omega)
    have o4 := HC4_8.out.trans' k2 (fun q hq e => by have e : q = B := e; show q ≤ Y; omega)
    have o7 := HC7_8.out.trans' k2 (fun q hq e => by have e : q = B := e; show q ≤ Y; omega)
    have hag : ∀ x q, total = .ok x q → aggP B fdC w9 x (.agg #[.string ⟨s1.toArray⟩, .slice ar4 lr4 cr4, .string ⟨st.toArray⟩, .slice at1 lt1 et1, .bool bt1, .bool false, .int .u8 0, .int .i64 0, .string ⟨#[]⟩, .slice none 0 0, .slice none 0 0]) := fun x q e => by
      obtain ⟨⟨⟨⟨⟨u, n1⟩, gs⟩, u2⟩, t1⟩, rfl, ⟨⟨⟨⟨-, k1⟩, k2⟩, -⟩, k3⟩⟩ := hxs x q e
      subst k1
      exact ⟨_, rfl, CellsAt.lit rfl (CellsAt.cons (CellAt.weaken (G' := fun q => B ≤ q) (fun q _ h => by have h : Y < q := h; show B ≤ q; omega) _ _ (CellAt.only o4 (fun k hk e => by have hk : Y < k := hk; have e : k ≤ Y := e; omega) _ _ k2)) (CellsAt.app (CellsAt.weaken (G' := fun q => B ≤ q) (fun q _ h => by have h : Y < q := h; show B ≤ q; omega) _ _ (CellsAt.only o7 (fun k hk e => by have hk : Y < k := hk; have e : k ≤ Y := e; omega) _ _ k3)) (CellsAt.lit rfl (leafC 0 0 []))))⟩
    exact bodyPost_ret (v := .agg #[.string ⟨s1.toArray⟩, .slice ar4 lr4 cr4, .string ⟨st.toArray⟩, .slice at1 lt1 et1, .bool bt1, .bool false, .int .u8 0, .int .i64 0, .string ⟨#[]⟩, .slice none 0 0, .slice none 0 0]) (by simp [results, Tryz.results27, go_sem, y0, y1, y2, y3, y4, y5, y6, y7, y8, y9, y10]) rfl (HPP.out w9 _ ⟨s1, ar4, lr4, cr4, st, at1, lt1, et1, bt1, false, 0, 0, [], none, 0, 0, none, 0, 0, rfl⟩ hd9 hag (HO8.out.trans' k2 (fun q hq e => by have := HWB.out; omega)))
end Go.Proofs.YtgephneppgcnlaaGreatDoor
