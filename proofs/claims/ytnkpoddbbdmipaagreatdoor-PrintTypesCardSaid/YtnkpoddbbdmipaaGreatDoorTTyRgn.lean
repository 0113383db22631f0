/- . -/
import Derived.Test.YtnkpoddbbdmipaaGreatDoorTTyRha
import Derived.Test.YtnkpoddbbdmipaaGreatDoorTTySdf
namespace Go.Proofs.YtnkpoddbbdmipaaGreatDoor
open Go Go.RowKit
open Go.Lib (hid)
set_option linter.unusedVariables false
set_option linter.unusedSimpArgs false
theorem infoFdF : (Tryz.prog.info? 104).map (fun i => (i.zero, i.size, i.bytes)) = some (some (.agg #[.string ByteArray.empty, .slice none 0 0, .string ByteArray.empty, .slice none 0 0, .bool false, .bool false, .int .u8 0, .int .i64 0, .string ByteArray.empty, .slice none 0 0, .slice none 0 0]), 11, 176) := by kernel_rfl
set_option maxRecDepth 100000 in
set_option maxHeartbeats 40000000 in
theorem finputs_any (b : Nat) (all : RL) (hdp : all.dp = 0) (σ0 : PR Unit) (c : List UInt8) (w : World) (h : Rf w b all σ0) :
  Calls Tryz.prog 87 #[.pointer (some ⟨b, 0, none⟩), .string ⟨c.toArray⟩] w (FAns w b all σ0 (rowP w.heap.size 11 inC) rowF (fun r => manyP inP c (r.length + 1) [] r)) := by
 have hbl := h.lt; obtain ⟨tl, htl⟩ := eX ((σ0.bind fun _ r => loopP inP c true [] r)); have htl2 : (σ0.bind fun _ => fun r => manyP inP c (r.length + 1) [] r) = tl := by rw [← htl]; cases σ0 with
  | bad a c => rfl
  | ok u r => exact manyP_loop inP_takes _ _ _ (by omega)
 have HP : ∀ w' (a : Option Addr) (l e : Nat) σ, Rf w' b all σ → σ = tl.unit → (∀ x q, tl = .ok x q → CellAt w' (fun q => w.heap.size ≤ q) (.row 11 (x.map inC)) (.slice a l e)) → Only (fun k => k = b) w w' → FAns w b all σ0 (rowP w.heap.size 11 inC) rowF (fun r => manyP inP c (r.length + 1) [] r) (.returned (.slice a l e)) w' := fun w' a l e σ h1 h2 h3 h4 => ⟨_, rfl, ⟨a, l, e, rfl⟩, by rw [htl2, ← h2]; exact h1, fun x q e => h3 x q (by rw [← htl2]; exact e), h4⟩
 have hls := LS.start (p := inP) (c := c) true (K := fun acc => ([] : List (List Cell)) = acc.map inC) rfl (σ := σ0) (fun u r e => by rw [e] at h; exact h.few.1); rw [htl] at hls; have HI := hid (show LI inP c inC 11 104 tl w b all w.heap.size (.slice none 0 0) true w from ⟨σ0, [], h, OwnRow.nil _ _ _ _, oR, hls⟩); have HPP := hid HP; have HLO := hid hbl; have HWLO := hid (Nat.le_refl w.heap.size); have HTK := hid inP_takes; have HAD := hid (show all.dp + 24 = 24 by omega); clear HP htl htl2 hls h hdp
 generalize (FAns w b all σ0 (rowP w.heap.size 11 inC) rowF (fun r => manyP inP c (r.length + 1) [] r)) = Q at *
 go_enter Tryz.func87, Tryz.ntmps87
 go_wp2_with fail
 go_loopw [5, 6] (fun v5 v6 wr => ∃ first : Bool, v6 = .bool first ∧ Hid (LI inP c inC 11 104 tl w b all w.heap.size v5 first wr)) (fun _ _ wr => muF wr b all)
 case atStart => exact ⟨true, rfl, HI⟩
 case round =>
  obtain ⟨first, rfl, hrel⟩ := hrel; obtain ⟨σ, rs, hd, hown, hon, hls⟩ := hrel.out; obtain ⟨aL, cL, eL, fL1, fL2, fL3⟩ := hown.form; subst eL; have fL2n : cL ≤ 9223372036854775807 := by unfold maxLen at fL2; omega
  have HOWN := hid hown; have HDr := hid hd; have HOr := hid hon; have HLS := hid hls; have HFL := hid fL3; have HLW := hid (show w.heap.size ≤ wr.heap.size from hon.size); obtain ⟨e0, ce, cz, hσ⟩ := hd.err; clear hown hd hon hls fL2 fL3 hrel HI
  rcases hσ with ⟨rr, rfl, rfl⟩ | ⟨ab, rfl, he0⟩
  rotate_left
  ·-- a fault: the loop ends
   have t1 : ((e0 : Int) == 0) = false := by simp; omega
   have htl := HLS.out.bad _ _ rfl; have HEND := hid (HPP.out wr aL rs.length cL (.bad ab e0) HDr.out (by rw [htl]; rfl) (fun x q e => (by rw [htl] at e; cases e)) HOr.out); clear htl he0
   go_wp2_with fail
   clear ce cz
   first
    | exact HEND.out
    | (go_ret; exact HEND.out)
  have T := hid (fEat_any b all (.ok () rr) c wr HDr.out); unfold tookF at T; obtain ⟨bb, hb⟩ := eX (tst (.ok () rr : PR Unit) (isT c)); rw [hb] at T; have HBT := hid (show isT c rr = bb from hb); clear hb
  by_cases hstop : first = false ∧ bb = true
  ·obtain ⟨rfl, rfl⟩ := hstop; rw [if_pos rfl] at T; obtain ⟨acc, hK, htl⟩ := HLS.out.stop HBT.out; have HK := hid hK; have HTL := hid htl; clear hK htl
   go_wp2_with fail
   refine T.out.mono ?_
   rintro e w20 ⟨rfl, hd, o4⟩; clear ce cz; have HW20 := HOWN.out.only o4 (fun k h1 h2 e => by have e : k = b := e; have := HLO.out; omega); have HEND := hid (HPP.out w20 aL rs.length cL (.ok () rr.tail) hd (by rw [HTL.out]; rfl) (fun x q e => (by rw [HTL.out] at e; injection e with e _; subst e; rw [← HK.out]; exact HW20.cell)) (HOr.out.trans o4)); clear hd o4 T HW20
   go_wp2_with fail
   first
    | exact HEND.out
    | (go_ret; exact HEND.out)
  have hcl : first = true ∨ isT c rr = false := by
   have := HBT.out
   cases first with
   | true => exact .inl rfl
   | false => right; rw [this]; cases bb with | false => rfl | true => exact absurd ⟨rfl, rfl⟩ hstop
  have hfb : first = true ∨ (first = false ∧ bb = false) := by
   cases first with
   | true => exact .inl rfl
   | false => right; cases bb with | false => exact ⟨rfl, rfl⟩ | true => exact absurd ⟨rfl, rfl⟩ hstop
  have HCL := hid hcl; have HFEW := hid (show rs.length + 1 ≤ 1000000 by have h1 := (HLS.out.ok _ _ rfl).1; have h2 := HDr.out.few.2; omega); clear hcl hstop
  go_upto_region 3 with (fail)
  go_cut [21] from 8 to 21 (fun v w' => v = .bool true ∧ Rf w' b all (.ok () rr) ∧ Only (fun k => k = b) wr w')
  case first =>
   clear HCL HFEW
   rcases hfb with rfl | ⟨rfl, rfl⟩
   ·have HDD := HDr; clear T
    go_wp2_with fail
    clear ce cz
    go_meet
    case rel => exact ⟨rfl, HDD.out, oR⟩
   ·rw [if_neg (by decide)] at T
    go_wp2_with fail
    refine T.out.mono ?_
    rintro e w20 ⟨rfl, hd, o4⟩; have HD2 := hid hd; have HO2 := hid o4; clear ce cz hd o4
    go_wp2_with fail
    go_meet
    case rel => exact ⟨rfl, HD2.out, HO2.out⟩
  case rest =>
  obtain ⟨rfl, hd0, ho0⟩ := hcut; obtain ⟨w0, hw0⟩ := eX (wc); rw [hw0] at hd0 ho0 ⊢; obtain ⟨σ0, hs0⟩ : ∃ σ : PR Unit, PR.ok () rr = σ := ⟨_, rfl⟩; rw [hs0] at hd0; obtain ⟨total, htot⟩ := eX (inP rr); have hj := Jn.start σ0 inP; rw [← hs0, show ((PR.ok () rr : PR Unit).bind fun _ => inP) = total from htot, hs0] at hj; have HD0 := hid hd0; have HO0 := hid ho0; have HTOT := hid htot; clear hw0 hs0 hd0 ho0 htot T HBT ce cz hfb; unfold inP at hj; have HJ0 := hid hj; clear hj; have J := hid (fName_any b all σ0 w0 HD0.out)
  go_wp2_with fail
  refine J.out.mono ?_
  rintro e w1 ⟨v, rfl, ⟨s1, rfl⟩, hd, hv, o4⟩; have hv : ∀ x q, (σ0.bind fun _ => nameP) = .ok x q → s1 = x := fun x q e => strF_inj (hv x q e)
  obtain ⟨σ1, hσ⟩ := eX ((σ0.bind fun _ => nameP).unit); rw [hσ] at hd; have hj := Jn.call (fun x => s1 = x) HJ0.out hσ.symm hv; have HJ1 := hid hj; have HD1 := hid hd; clear hj hd hv hσ HJ0 J; have HO1 := hid (HO0.out.trans' o4 (fun q hq e => by exact e)); clear o4; clear HO0 HD0; obtain ⟨Y, hY⟩ := eX (w1.heap.size); have HWY := hid (show wr.heap.size ≤ Y by have := HO1.out.size; omega); have hbY : b < Y := by have := HD1.out.lt; omega
  obtain ⟨w2, hw2⟩ := eX (w1.alloc (.cells #[.string ⟨s1.toArray⟩, .slice none 0 0, .string ⟨#[]⟩, .slice none 0 0, .bool false, .bool false, .int .u8 0, .int .i64 0, .string ⟨#[]⟩, .slice none 0 0, .slice none 0 0] 104)); have hy2 : w2.heap[Y]? = some (.cells #[.string ⟨s1.toArray⟩, .slice none 0 0, .string ⟨#[]⟩, .slice none 0 0, .bool false, .bool false, .int .u8 0, .int .i64 0, .string ⟨#[]⟩, .slice none 0 0, .slice none 0 0] 104 (0, 0)) := by rw [← hw2, ← hY]; exact heap_new _ _
  have oa2 : Only (fun _ => False) w1 w2 := by rw [← hw2]; exact (Only.refl _ _).alloc _
  have HY2 := hid hy2; have HD2 := hid (HD1.out.still oa2); have HO2 := hid (HO1.out.trans' oa2 (fun q _ e => e.elim)); have HW2 := hid hw2; have HYY := hid hY; have HJ2 := HJ1; clear hy2 hw2 hY oa2 HD1 HO1 HJ1
  go_upto_region 6 with (fail)
  rw [HYY.out, HW2.out]; clear HYY HW2; have J := hid (fMust_any b all σ1 [58] w2 HD2.out)
  go_wp2_with fail
  refine J.out.mono ?_
  rintro e w3 ⟨rfl, hd, o4⟩; have hv : ∀ x q, (σ1.bind fun _ => wantP [58]) = .ok x q → True := fun _ _ _ => trivial
  obtain ⟨σ3, hσ⟩ := eX ((σ1.bind fun _ => wantP [58]).unit); rw [hσ] at hd; have hj := Jn.call (fun _ => True) HJ2.out hσ.symm hv; have HJ3 := hid hj; have HD3 := hid hd; clear hj hd hv hσ HJ2 J; have hy3 := kB o4 HY2.out (by omega); have HY3 := hid hy3; have HO3 := hid (HO2.out.trans' o4 (fun q hq e => by exact e)); clear hy3; clear o4; clear HO2 HD2 HY2; have J := hid (fType_any 24 b all σ3 w3 HAD.out HD3.out)
  go_wp2_with fail
  refine J.out.mono ?_
  rintro e w4 ⟨v, rfl, ⟨st, at1, lt1, et1, bt1, rfl⟩, hd, hv, o4⟩; have hsy : Y < w3.heap.size := (gE HY3.out).1; have hv : ∀ x q, (σ3.bind fun _ => typP 24) = .ok x q → CellsAt w4 (fun q => Y < q) (trC x) [.string ⟨st.toArray⟩, .slice at1 lt1 et1, .bool bt1] := fun x q e => CellsAt.weaken (fun q _ h => by have h : w3.heap.size ≤ q := h; show Y < q; omega) _ _ (aggF_cells (hv x q e))
  obtain ⟨σ4, hσ⟩ := eX ((σ3.bind fun _ => typP 24).unit); rw [hσ] at hd; have hj := Jn.call (fun x => CellsAt w4 (fun q => Y < q) (trC x) [.string ⟨st.toArray⟩, .slice at1 lt1 et1, .bool bt1]) HJ3.out hσ.symm hv; have HJ4 := hid hj; have HD4 := hid hd; clear hj hd hv hσ HJ3 J hsy; have hy4 := kB o4 HY3.out (by omega); have HY4 := hid hy4; have HO4 := hid (HO3.out.trans' o4 (fun q hq e => by exact e)); clear hy4; have HC4_4 := hid (Only.refl (fun k => k ≤ Y) w4); clear o4; clear HO3 HD3 HY3
  go_upto_region 8 with ((refine wpList_store_part (o := ⟨none, _, _, _, _, _⟩) rfl 41 (.tmp 29) (.tmp 28) (by rfl) Y 2 104 [.string ⟨s1.toArray⟩, .slice none 0 0] [.string ⟨#[]⟩, .slice none 0 0, .bool false] [.string ⟨st.toArray⟩, .slice at1 lt1 et1, .bool bt1] [.bool false, .int .u8 0, .int .i64 0, .string ⟨#[]⟩, .slice none 0 0, .slice none 0 0] (by rfl) (by rfl) HY4.out (by rfl) (by rfl) (by kernel_rfl) (by intro u hu; simp at hu; rcases hu with rfl | rfl | rfl <;> rfl) ?_; intro w5 k1 k2))
  have hy5 : w5.heap[Y]? = some (.cells #[.string ⟨s1.toArray⟩, .slice none 0 0, .string ⟨st.toArray⟩, .slice at1 lt1 et1, .bool bt1, .bool false, .int .u8 0, .int .i64 0, .string ⟨#[]⟩, .slice none 0 0, .slice none 0 0] 104 (0, 0)) := k1; have HY5 := hid hy5; have HD5 := hid (HD4.out.only k2 (fun k hk e => by omega)); have HJ5 := HJ4; have HC4_5 := hid (HC4_4.out.trans' k2 (fun q hq e => by have e : q = Y := e; show q ≤ Y; omega)); have HO5 := hid (HO4.out.trans' k2 (fun q hq e => by have e : q = Y := e; have := HWY.out; omega)); clear hy5 k1 k2 HJ4; clear HO4 HD4 HY4 HC4_4; have J := hid (fEat_any b all σ4 [61] w5 HD5.out); unfold tookF at J; obtain ⟨bb6, hb6⟩ := eX (tst σ4 (isT [61])); rw [hb6] at J; have HBT := hid hb6; clear hb6
  cases bb6
  ·
   rw [if_neg (by decide)] at J
   go_wp2_with fail
   refine J.out.mono ?_
   rintro e w6 ⟨rfl, hd, o4⟩; have HJ6 := hid (HJ5.out.no HBT.out); have HD6 := hid hd; clear HJ5 hd HBT J; have hy6 := kB o4 HY5.out (by omega); have HY6 := hid hy6; have HC4_6 := hid (HC4_5.out.trans' o4 (fun q hq e => by have e : q = b := e; show q ≤ Y; omega)); have HO6 := hid (HO5.out.trans' o4 (fun q hq e => by exact e)); clear hy6; clear o4; clear HO5 HD5 HY5 HC4_5; obtain ⟨hdn, hxs⟩ := HJ6.out.done; have o4 := HC4_6.out; have hvc : ∀ x q, total = .ok x q → CellsAt w6 (fun q => Y < q ∧ q < w6.heap.size) (inC x) [.string ⟨s1.toArray⟩, .slice none 0 0, .string ⟨st.toArray⟩, .slice at1 lt1 et1, .bool bt1, .bool false, .int .u8 0, .int .i64 0, .string ⟨#[]⟩, .slice none 0 0, .slice none 0 0] := fun x q e => by
    obtain ⟨⟨⟨⟨u, n1⟩, u2⟩, t1⟩, rfl, ⟨⟨⟨-, k1⟩, -⟩, k3⟩⟩ := hxs x q e; subst k1; exact CellsAt.lit rfl (CellsAt.cons (CellAt.nilRow _ _ _) (CellsAt.app (CellsAt.weaken (G' := fun q => Y < q ∧ q < w6.heap.size) (fun q hq h => ⟨h, hq⟩) _ _ (CellsAt.only o4 (fun k hk e => by have hk : Y < k := hk; have e : k ≤ Y := e; omega) _ _ k3)) (CellsAt.lit rfl (leafC 0 0 []))))
   have hdz : Rf w6 b all total.unit := by rw [← hdn]; exact HD6.out
   obtain ⟨row, hrow, hrx⟩ := elem_row (P := total) (enc := inC) (ys := [.string ⟨s1.toArray⟩, .slice none 0 0, .string ⟨st.toArray⟩, .slice at1 lt1 et1, .bool bt1, .bool false, .int .u8 0, .int .i64 0, .string ⟨#[]⟩, .slice none 0 0, .slice none 0 0]) hvc (by intro u hu; simp at hu; rcases hu with rfl | rfl | rfl | rfl | rfl | rfl | rfl | rfl | rfl | rfl | rfl <;> rfl); have HDZ := hid hdz; have HROW := hid hrow; have HRX := hid hrx; clear hdn hxs hvc hdz hrow hrx HD6 HJ6 o4; obtain ⟨G, hG⟩ := eX (w6.heap.size); obtain ⟨wA, hwa⟩ := eX (w6.alloc (.cells #[.string ⟨s1.toArray⟩, .slice none 0 0, .string ⟨st.toArray⟩, .slice at1 lt1 et1, .bool bt1, .bool false, .int .u8 0, .int .i64 0, .string ⟨#[]⟩, .slice none 0 0, .slice none 0 0] 104)); have og : Only (fun _ => False) w6 wA := by rw [← hwa]; exact (Only.refl _ _).alloc _
   have hgg : wA.heap[G]? = some (.cells #[.string ⟨s1.toArray⟩, .slice none 0 0, .string ⟨st.toArray⟩, .slice at1 lt1 et1, .bool bt1, .bool false, .int .u8 0, .int .i64 0, .string ⟨#[]⟩, .slice none 0 0, .slice none 0 0] 104 (0, 0)) := by rw [← hwa, ← hG]; exact heap_new _ _
   have hgs : G + 1 = wA.heap.size := by rw [← hwa, World.size_alloc, hG]
   have hgw : wr.heap.size ≤ G := by have := HO6.out.size; omega
   have HOA := hid (HO6.out.trans' og (fun q _ e => e.elim)); have hw0 : OwnRow wA w.heap.size 104 11 (.slice aL rs.length cL) rs := HOWN.out.only HOA.out (fun k h1 h2 e => by have e : k = b := e; have := HLO.out; omega); have HRA := hid (show CellsAt wA (fun q => w.heap.size ≤ q ∧ (Value.slice aL rs.length cL).ownBlock ≠ some q ∧ q < wA.heap.size) row [.string ⟨s1.toArray⟩, .slice none 0 0, .string ⟨st.toArray⟩, .slice at1 lt1 et1, .bool bt1, .bool false, .int .u8 0, .int .i64 0, .string ⟨#[]⟩, .slice none 0 0, .slice none 0 0] from CellsAt.weaken (fun q hq h => by have h1 : Y < q := h.1; have := HWY.out; have := HLW.out; exact ⟨by omega, fun e => by have := (HFL.out q e).2; omega, hq⟩) _ _ (CellsAt.only og (fun _ _ h => h) _ _ HROW.out)); have HDA := hid (HDZ.out.still og); obtain ⟨xs, p1', p2'⟩ := hw0; have hys : ∀ j u, ([.string ⟨s1.toArray⟩, .slice none 0 0, .string ⟨st.toArray⟩, .slice at1 lt1 et1, .bool bt1, .bool false, .int .u8 0, .int .i64 0, .string ⟨#[]⟩, .slice none 0 0, .slice none 0 0] : List Value)[j]? = some u → wA.cell? ((⟨G, 0, none⟩ : Addr).add j) = some u := fun j u hu => by rw [addr_add]; exact range_of_block (cs := [.string ⟨s1.toArray⟩, .slice none 0 0, .string ⟨st.toArray⟩, .slice at1 lt1 et1, .bool bt1, .bool false, .int .u8 0, .int .i64 0, .string ⟨#[]⟩, .slice none 0 0, .slice none 0 0]) hgg j u hu
   have hone : ∀ u ∈ ([.string ⟨s1.toArray⟩, .slice none 0 0, .string ⟨st.toArray⟩, .slice at1 lt1 et1, .bool bt1, .bool false, .int .u8 0, .int .i64 0, .string ⟨#[]⟩, .slice none 0 0, .slice none 0 0] : List Value), u.oneCell' = true := by intro u hu; simp at hu; rcases hu with rfl | rfl | rfl | rfl | rfl | rfl | rfl | rfl | rfl | rfl | rfl <;> rfl
   have HYS := hid hys; have HONE := hid hone; have HP1 := hid p1'; have HP2 := hid p2'; have HG := hid hG; have HWA := hid hwa; have HGS := hid hgs; have HGW := hid hgw; clear hys hone p1' p2' hG hwa hgs hgg og hgw; obtain ⟨y0, y1, y2, y3, y4, y5, y6, y7, y8, y9, y10, yz⟩ := boxN11 HY6.out
   go_wp2_with ((rw [HG.out, HWA.out]; refine wpList_append_own2 (o := ⟨some 39, _, _, _, _, _⟩) rfl (.tmp 36) (.tmp 38) 97 104 (by rfl) Tryz.underlying97 infoFdF rfl (by decide) w.heap.size (.slice aL rs.length cL) rs.length 1 1 xs [.string ⟨s1.toArray⟩, .slice none 0 0, .string ⟨st.toArray⟩, .slice at1 lt1 et1, .bool bt1, .bool false, .int .u8 0, .int .i64 0, .string ⟨#[]⟩, .slice none 0 0, .slice none 0 0] ⟨G, 0, none⟩ (by rfl) (by rfl) HP1.out (by rfl) HYS.out HONE.out (by have := HFEW.out; unfold maxLen; omega) (by have := HFEW.out; omega) (by have := HGS.out; have := HGW.out; have := HLW.out; omega) ?_; intro v' wZ q1 q2 q3; obtain ⟨aL', cL', eL', gL1, gL2, -⟩ := own_form q1; subst eL'; clear y0 y1 y2 y3 y4 y5 y6 y7 y8 y9 y10 yz))
   have hF := HFL.out; have hrow2 := OwnRow.append HP1.out HP2.out rfl HRA.out q1 q2 q3; have hdd := HDA.out.only q2 (fun k hk h => by have := (hF k h).1; have := HLO.out; omega); have hoo : Only (fun k => k = b) w wZ := (HOr.out.trans HOA.out).trans' q2 (fun q hq h => by have := (hF q h).1; have := HWLO.out; omega); have hlss := HLS.out.next (K' := fun acc => rs ++ [row] = acc.map inC) HTK.out HDr.out.few.2 HCL.out (fun acc x q h1 h2 => by rw [h1, HRX.out x q (HTOT.out.symm.trans h2), List.map_append]; rfl); rw [HTOT.out] at hlss; have hmu : muF wZ b all < muF wr b all := by
    rw [muF_ok HDr.out]
    cases hq : total with
    | bad p q => rw [hq] at hdd; rw [muF_bad hdd]; omega
    | ok x r2 => rw [hq] at hdd; rw [muF_ok (u := ()) hdd]; have := HTK.out _ _ _ (HTOT.out.trans hq); omega
   have hnew : LI inP c inC 11 104 tl w b all w.heap.size (.slice aL' (rs.length + 1) cL') false wZ := ⟨total.unit, rs ++ [row], hdd, hrow2, hoo, by rw [List.length_append, List.length_singleton]; exact hlss⟩; have HNEW := hid hnew; have HMU := hid hmu; clear hnew hmu hlss hoo hdd hrow2 q1 q2 q3 gL1 gL2 hF HOA HRA HDA HDZ HO6 HY6
   go_wp2_with fail
   go_roundw
   case rel => first | exact ⟨false, rfl, HNEW⟩ | ((repeat apply Exists.intro); refine ⟨?_, rfl⟩; exact ⟨false, rfl, HNEW⟩)
   case measure => exact HMU.out
  ·
   rw [if_pos rfl] at J
   go_wp2_with fail
   refine J.out.mono ?_
   rintro e w6 ⟨rfl, hd, o4⟩; have HJ6 := hid (Jn.adv (F := fun (p : ((Unit × List UInt8) × Unit) × TR) r => (valueP true 24 r).bind fun v r4 => .ok (IN.mk p.1.1.2 p.2 true v) r4) (HJ5.out.yes HBT.out)); obtain ⟨σ6, hσ⟩ := eX (adv σ4); rw [hσ] at hd HJ6; clear hσ; have HD6 := hid hd; clear HJ5 hd HBT J; have hy6 := kB o4 HY5.out (by omega); have HY6 := hid hy6; have HC4_6 := hid (HC4_5.out.trans' o4 (fun q hq e => by have e : q = b := e; show q ≤ Y; omega)); have HO6 := hid (HO5.out.trans' o4 (fun q hq e => by exact e)); clear hy6; clear o4; clear HO5 HD5 HY5 HC4_5; obtain ⟨y0, y1, y2, y3, y4, y5, y6, y7, y8, y9, y10, yz⟩ := boxN11 HY6.out
   go_upto_region 10 with (fail)
   clear y0 y1 y2 y3 y4 y5 y6 y7 y8 y9 y10 yz; have hy7 := heap_set (o := 5) HY6.out (.bool true); have hy7 : (w6.setCell ⟨Y, 5, none⟩ (.bool true)).heap[Y]? = some (.cells #[.string ⟨s1.toArray⟩, .slice none 0 0, .string ⟨st.toArray⟩, .slice at1 lt1 et1, .bool bt1, .bool true, .int .u8 0, .int .i64 0, .string ⟨#[]⟩, .slice none 0 0, .slice none 0 0] 104 (0, 0)) := by simpa using hy7
   have os7 : Only (fun k => k = Y) w6 (w6.setCell ⟨Y, 5, none⟩ (.bool true)) := (Only.refl (fun k => k = Y) _).setCell (p := ⟨Y, 5, none⟩) (.inl rfl) _; obtain ⟨w7, hw7⟩ := eX (w6.setCell ⟨Y, 5, none⟩ (.bool true)); rw [hw7] at hy7 os7; rw [hw7]; clear hw7; have HY7 := hid hy7; have HD7 := hid (HD6.out.only os7 (fun k hk e => by omega)); have HJ7 := HJ6; have HC4_7 := hid (HC4_6.out.trans' os7 (fun q hq e => by have e : q = Y := e; show q ≤ Y; omega)); have HO7 := hid (HO6.out.trans' os7 (fun q hq e => by have e : q = Y := e; have := HWY.out; omega)); clear hy7 os7 HJ6; clear HO6 HD6 HY6 HC4_6; have J := hid (fValue_any 24 true b all σ6 w7 HAD.out HD7.out)
   go_wp2_with fail
   refine J.out.mono ?_
   rintro e w8 ⟨v, rfl, ⟨kd, nm, sv, a1, l1, p1, a2, l2, p2, rfl⟩, hd, hv, o4⟩; have hsy : Y < w7.heap.size := (gE HY7.out).1; have hv : ∀ x q, (σ6.bind fun _ => valueP true 24) = .ok x q → CellsAt w8 (fun q => Y < q) (valC x) [.int .u8 (kd : Int), .int .i64 nm, .string ⟨sv.toArray⟩, .slice a1 l1 p1, .slice a2 l2 p2] := fun x q e => CellsAt.weaken (fun q _ h => by have h : w7.heap.size ≤ q := h; show Y < q; omega) _ _ (aggF_cells (hv x q e))
   obtain ⟨σ8, hσ⟩ := eX ((σ6.bind fun _ => valueP true 24).unit); rw [hσ] at hd; have hj := Jn.call (fun x => CellsAt w8 (fun q => Y < q) (valC x) [.int .u8 (kd : Int), .int .i64 nm, .string ⟨sv.toArray⟩, .slice a1 l1 p1, .slice a2 l2 p2]) HJ7.out hσ.symm hv; have HJ8 := hid hj; have HD8 := hid hd; clear hj hd hv hσ HJ7 J hsy; have hy8 := kB o4 HY7.out (by omega); have HY8 := hid hy8; have HC4_8 := hid (HC4_7.out.trans' o4 (fun q hq e => by have e : q = b := e; show q ≤ Y; omega)); have HO8 := hid (HO7.out.trans' o4 (fun q hq e => by exact e)); clear hy8; have HC8_8 := hid (Only.refl (fun k => k ≤ Y) w8); clear o4; clear HO7 HD7 HY7 HC4_7
   go_upto_region 11 with ((refine wpList_store_part (o := ⟨none, _, _, _, _, _⟩) rfl 35 (.tmp 35) (.tmp 34) (by rfl) Y 6 104 [.string ⟨s1.toArray⟩, .slice none 0 0, .string ⟨st.toArray⟩, .slice at1 lt1 et1, .bool bt1, .bool true] [.int .u8 0, .int .i64 0, .string ⟨#[]⟩, .slice none 0 0, .slice none 0 0] [.int .u8 (kd : Int), .int .i64 nm, .string ⟨sv.toArray⟩, .slice a1 l1 p1, .slice a2 l2 p2] [] (by rfl) (by rfl) HY8.out (by rfl) (by rfl) (by kernel_rfl) (by intro u hu; simp at hu; rcases hu with rfl | rfl | rfl | rfl | rfl <;> rfl) ?_; intro w9 k1 k2))
   have hy9 : w9.heap[Y]? = some (.cells #[.string ⟨s1.toArray⟩, .slice none 0 0, .string ⟨st.toArray⟩, .slice at1 lt1 et1, .bool bt1, .bool true, .int .u8 (kd : Int), .int .i64 nm, .string ⟨sv.toArray⟩, .slice a1 l1 p1, .slice a2 l2 p2] 104 (0, 0)) := k1; have HY9 := hid hy9; have HD9 := hid (HD8.out.only k2 (fun k hk e => by omega)); have HJ9 := HJ8; have HC4_9 := hid (HC4_8.out.trans' k2 (fun q hq e => by have e : q = Y := e; show q ≤ Y; omega)); have HC8_9 := hid (HC8_8.out.trans' k2 (fun q hq e => by have e : q = Y := e; show q ≤ Y; omega)); have HO9 := hid (HO8.out.trans' k2 (fun q hq e => by have e : q = Y := e; have := HWY.out; omega)); clear hy9 k1 k2 HJ8; clear HO8 HD8 HY8 HC4_8 HC8_8; obtain ⟨hdn, hxs⟩ := HJ9.out.done; have o4 := HC4_9.out; have o8 := HC8_9.out; have hvc : ∀ x q, total = .ok x q → CellsAt w9 (fun q => Y < q ∧ q < w9.heap.size) (inC x) [.string ⟨s1.toArray⟩, .slice none 0 0, .string ⟨st.toArray⟩, .slice at1 lt1 et1, .bool bt1, .bool true, .int .u8 (kd : Int), .int .i64 nm, .string ⟨sv.toArray⟩, .slice a1 l1 p1, .slice a2 l2 p2] := fun x q e => by
    obtain ⟨⟨⟨⟨⟨u, n1⟩, u2⟩, t1⟩, v1⟩, rfl, ⟨⟨⟨⟨-, k1⟩, -⟩, k3⟩, k4⟩⟩ := hxs x q e; subst k1; exact CellsAt.lit rfl (CellsAt.cons (CellAt.nilRow _ _ _) (CellsAt.app (CellsAt.weaken (G' := fun q => Y < q ∧ q < w9.heap.size) (fun q hq h => ⟨h, hq⟩) _ _ (CellsAt.only o4 (fun k hk e => by have hk : Y < k := hk; have e : k ≤ Y := e; omega) _ _ k3)) (CellsAt.lit rfl (CellsAt.weaken (G' := fun q => Y < q ∧ q < w9.heap.size) (fun q hq h => ⟨h, hq⟩) _ _ (CellsAt.only o8 (fun k hk e => by have hk : Y < k := hk; have e : k ≤ Y := e; omega) _ _ k4)))))
   have hdz : Rf w9 b all total.unit := by rw [← hdn]; exact HD9.out
   obtain ⟨row, hrow, hrx⟩ := elem_row (P := total) (enc := inC) (ys := [.string ⟨s1.toArray⟩, .slice none 0 0, .string ⟨st.toArray⟩, .slice at1 lt1 et1, .bool bt1, .bool true, .int .u8 (kd : Int), .int .i64 nm, .string ⟨sv.toArray⟩, .slice a1 l1 p1, .slice a2 l2 p2]) hvc (by intro u hu; simp at hu; rcases hu with rfl | rfl | rfl | rfl | rfl | rfl | rfl | rfl | rfl | rfl | rfl <;> rfl); have HDZ := hid hdz; have HROW := hid hrow; have HRX := hid hrx; clear hdn hxs hvc hdz hrow hrx HD9 HJ9 o4 o8; obtain ⟨G, hG⟩ := eX (w9.heap.size); obtain ⟨wA, hwa⟩ := eX (w9.alloc (.cells #[.string ⟨s1.toArray⟩, .slice none 0 0, .string ⟨st.toArray⟩, .slice at1 lt1 et1, .bool bt1, .bool true, .int .u8 (kd : Int), .int .i64 nm, .string ⟨sv.toArray⟩, .slice a1 l1 p1, .slice a2 l2 p2] 104)); have og : Only (fun _ => False) w9 wA := by rw [← hwa]; exact (Only.refl _ _).alloc _
   have hgg : wA.heap[G]? = some (.cells #[.string ⟨s1.toArray⟩, .slice none 0 0, .string ⟨st.toArray⟩, .slice at1 lt1 et1, .bool bt1, .bool true, .int .u8 (kd : Int), .int .i64 nm, .string ⟨sv.toArray⟩, .slice a1 l1 p1, .slice a2 l2 p2] 104 (0, 0)) := by rw [← hwa, ← hG]; exact heap_new _ _
   have hgs : G + 1 = wA.heap.size := by rw [← hwa, World.size_alloc, hG]
   have hgw : wr.heap.size ≤ G := by have := HO9.out.size; omega
   have HOA := hid (HO9.out.trans' og (fun q _ e => e.elim)); have hw0 : OwnRow wA w.heap.size 104 11 (.slice aL rs.length cL) rs := HOWN.out.only HOA.out (fun k h1 h2 e => by have e : k = b := e; have := HLO.out; omega); have HRA := hid (show CellsAt wA (fun q => w.heap.size ≤ q ∧ (Value.slice aL rs.length cL).ownBlock ≠ some q ∧ q < wA.heap.size) row [.string ⟨s1.toArray⟩, .slice none 0 0, .string ⟨st.toArray⟩, .slice at1 lt1 et1, .bool bt1, .bool true, .int .u8 (kd : Int), .int .i64 nm, .string ⟨sv.toArray⟩, .slice a1 l1 p1, .slice a2 l2 p2] from CellsAt.weaken (fun q hq h => by have h1 : Y < q := h.1; have := HWY.out; have := HLW.out; exact ⟨by omega, fun e => by have := (HFL.out q e).2; omega, hq⟩) _ _ (CellsAt.only og (fun _ _ h => h) _ _ HROW.out)); have HDA := hid (HDZ.out.still og); obtain ⟨xs, p1', p2'⟩ := hw0; have hys : ∀ j u, ([.string ⟨s1.toArray⟩, .slice none 0 0, .string ⟨st.toArray⟩, .slice at1 lt1 et1, .bool bt1, .bool true, .int .u8 (kd : Int), .int .i64 nm, .string ⟨sv.toArray⟩, .slice a1 l1 p1, .slice a2 l2 p2] : List Value)[j]? = some u → wA.cell? ((⟨G, 0, none⟩ : Addr).add j) = some u := fun j u hu => by rw [addr_add]; exact range_of_block (cs := [.string ⟨s1.toArray⟩, .slice none 0 0, .string ⟨st.toArray⟩, .slice at1 lt1 et1, .bool bt1, .bool true, .int .u8 (kd : Int), .int .i64 nm, .string ⟨sv.toArray⟩, .slice a1 l1 p1, .slice a2 l2 p2]) hgg j u hu
   have hone : ∀ u ∈ ([.string ⟨s1.toArray⟩, .slice none 0 0, .string ⟨st.toArray⟩, .slice at1 lt1 et1, .bool bt1, .bool true, .int .u8 (kd : Int), .int .i64 nm, .string ⟨sv.toArray⟩, .slice a1 l1 p1, .slice a2 l2 p2] : List Value), u.oneCell' = true := by intro u hu; simp at hu; rcases hu with rfl | rfl | rfl | rfl | rfl | rfl | rfl | rfl | rfl | rfl | rfl <;> rfl
   have HYS := hid hys; have HONE := hid hone; have HP1 := hid p1'; have HP2 := hid p2'; have HG := hid hG; have HWA := hid hwa; have HGS := hid hgs; have HGW := hid hgw; clear hys hone p1' p2' hG hwa hgs hgg og hgw; obtain ⟨y0, y1, y2, y3, y4, y5, y6, y7, y8, y9, y10, yz⟩ := boxN11 HY9.out
   go_wp2_with ((rw [HG.out, HWA.out]; refine wpList_append_own2 (o := ⟨some 39, _, _, _, _, _⟩) rfl (.tmp 36) (.tmp 38) 97 104 (by rfl) Tryz.underlying97 infoFdF rfl (by decide) w.heap.size (.slice aL rs.length cL) rs.length 1 1 xs [.string ⟨s1.toArray⟩, .slice none 0 0, .string ⟨st.toArray⟩, .slice at1 lt1 et1, .bool bt1, .bool true, .int .u8 (kd : Int), .int .i64 nm, .string ⟨sv.toArray⟩, .slice a1 l1 p1, .slice a2 l2 p2] ⟨G, 0, none⟩ (by rfl) (by rfl) HP1.out (by rfl) HYS.out HONE.out (by have := HFEW.out; unfold maxLen; omega) (by have := HFEW.out; omega) (by have := HGS.out; have := HGW.out; have := HLW.out; omega) ?_; intro v' wZ q1 q2 q3; obtain ⟨aL', cL', eL', gL1, gL2, -⟩ := own_form q1; subst eL'; clear y0 y1 y2 y3 y4 y5 y6 y7 y8 y9 y10 yz))
   have hF := HFL.out; have hrow2 := OwnRow.append HP1.out HP2.out rfl HRA.out q1 q2 q3; have hdd := HDA.out.only q2 (fun k hk h => by have := (hF k h).1; have := HLO.out; omega); have hoo : Only (fun k => k = b) w wZ := (HOr.out.trans HOA.out).trans' q2 (fun q hq h => by have := (hF q h).1; have := HWLO.out; omega); have hlss := HLS.out.next (K' := fun acc => rs ++ [row] = acc.map inC) HTK.out HDr.out.few.2 HCL.out (fun acc x q h1 h2 => by rw [h1, HRX.out x q (HTOT.out.symm.trans h2), List.map_append]; rfl); rw [HTOT.out] at hlss; have hmu : muF wZ b all < muF wr b all := by
    rw [muF_ok HDr.out]
    cases hq : total with
    | bad p q => rw [hq] at hdd; rw [muF_bad hdd]; omega
    | ok x r2 => rw [hq] at hdd; rw [muF_ok (u := ()) hdd]; have := HTK.out _ _ _ (HTOT.out.trans hq); omega
   have hnew : LI inP c inC 11 104 tl w b all w.heap.size (.slice aL' (rs.length + 1) cL') false wZ := ⟨total.unit, rs ++ [row], hdd, hrow2, hoo, by rw [List.length_append, List.length_singleton]; exact hlss⟩; have HNEW := hid hnew; have HMU := hid hmu; clear hnew hmu hlss hoo hdd hrow2 q1 q2 q3 gL1 gL2 hF HOA HRA HDA HDZ HO9 HY9
   go_wp2_with fail
   go_roundw
   case rel => first | exact ⟨false, rfl, HNEW⟩ | ((repeat apply Exists.intro); refine ⟨?_, rfl⟩; exact ⟨false, rfl, HNEW⟩)
   case measure => exact HMU.out
def NMF (w : World) (b : Nat) (all : RL) (sg : List UInt8) (total : PR (List (List UInt8))) (v : Value) (wr : World) : Prop :=
 ∃ (σ : PR Unit) (n : Nat) (xs : List Value), Rf wr b all σ ∧ wr.ownsRow w.heap.size 9 1 v n xs ∧ n ≤ 1000001 ∧ 0 < n ∧ Only (fun k => k = b) w wr ∧ (match σ with
  | .ok _ r => n + r.length ≤ 1000001 ∧ ∃ acc : List (List UInt8), acc.length = n ∧ Chk wr (fun q => w.heap.size ≤ q ∧ v.ownBlock ≠ some q ∧ q < wr.heap.size) 1 (acc.map fun s => [strC s]) xs ∧ total = moreP sg (r.length + 1) acc r
  | .bad a e => total = .bad a e)
theorem own_oneF {w : World} {B G : Nat} {T : TypeId} {x : Value} (h : w.heap[G]? = some (.cells #[x] T (0, 0))) (hB : B ≤ G) : w.ownsRow B T 1 (.slice (some ⟨G, 0, none⟩) 1 1) 1 [x] := ⟨rfl, .inr ⟨G, 1, #[x], rfl, hB, h, Nat.le_refl _, by unfold maxLen; omega, rfl, rfl⟩⟩
set_option maxRecDepth 100000 in
set_option maxHeartbeats 40000000 in
theorem fnames_any (sg : List UInt8) (b : Nat) (all : RL) (σ0 : PR Unit) (w : World) (h : Rf w b all σ0) :
  Calls Tryz.prog 86 #[.pointer (some ⟨b, 0, none⟩), .string ⟨sg.toArray⟩] w (FAns w b all σ0 (rowP w.heap.size 1 (fun s => [strC s])) rowF (namesP sg)) := by
 have hbl := h.lt; obtain ⟨total, htot⟩ := eX ((σ0.bind fun _ => namesP sg)); obtain ⟨Q, hQ⟩ := eX (FAns w b all σ0 (rowP w.heap.size 1 (fun s => [strC s])) rowF (namesP sg)); rw [hQ]; have fo : ∀ w' (a : Option Addr) (l e : Nat) σ, Rf w' b all σ → σ = total.unit → (∀ x q, total = .ok x q → CellAt w' (fun q => w.heap.size ≤ q) (.row 1 (x.map fun s => [strC s])) (.slice a l e)) → Only (fun k => k = b) w w' → Q (.returned (.slice a l e)) w' := fun w' a l e σ h1 h2 h3 h4 => by
  rw [← hQ]; exact ⟨_, rfl, ⟨a, l, e, rfl⟩, by rw [htot, ← h2]; exact h1, fun x q e => h3 x q (by rw [← htot]; exact e), h4⟩
 have T := hid (fEat_any b all σ0 sg w h); unfold tookF at T
 -- what stands behind the first sign
 obtain ⟨σ1, hσ1⟩ := eX ((if tst σ0 (isT sg) = true then adv σ0 else σ0)); have htot2 : total = σ1.bind fun _ r => (nameP r).bind fun s r1 => moreP sg (r1.length + 1) [s] r1 := by
  rw [← htot, ← hσ1]
  cases σ0 with
  | ok u r =>
   show namesP sg r = _
   unfold namesP
   show _ = (if isT sg r = true then PR.ok () r.tail else PR.ok () r).bind _
   by_cases hb : isT sg r = true
   ·rw [if_pos hb, if_pos hb]; rfl
   ·rw [if_neg hb, if_neg hb]; rfl
  | bad a c => rfl
 rw [hσ1] at T; obtain ⟨bb, hbb⟩ := eX (tst σ0 (isT sg)); rw [hbb] at T; have FO := hid fo; have HT2 := hid htot2; clear fo hQ htot htot2 h hσ1 hbb
 go_enter Tryz.func86, Tryz.ntmps86
 go_wp2_with fail
 refine T.out.mono ?_
 rintro e w1 ⟨rfl, h1, o1⟩; have J := hid (fName_any b all σ1 w1 h1); have H1 := hid h1; have O1 := hid o1; clear h1 o1 T
 go_wp2_with fail
 refine J.out.mono ?_
 rintro e w2 ⟨v, rfl, ⟨s1, rfl⟩, hd2, hv, o2⟩; have hg := heap_new w2 (.cells #[.string ⟨s1.toArray⟩] 9); have on := (Only.refl (fun _ => False) w2).alloc (.cells #[.string ⟨s1.toArray⟩] 9); obtain ⟨w3, hw3⟩ := eX (w2.alloc (.cells #[.string ⟨s1.toArray⟩] 9)); obtain ⟨G, hG⟩ := eX (w2.heap.size); rw [hw3] at hg on; rw [hG] at hg; have hGB : w.heap.size ≤ G := by have := O1.out.size; have := o2.size; omega
 have hi : NMF w b all sg total (.slice (some ⟨G, 0, none⟩) 1 1) w3 := by
  refine ⟨_, 1, _, hd2.still on, own_oneF hg hGB, by omega, by omega, (O1.out.trans o2).trans' on (fun _ _ h => h.elim), ?_⟩
  have h1 := H1.out; have ht := HT2.out
  cases σ1 with
  | ok u r =>
   have hfew := h1.few; have ht : total = (nameP r).bind fun s r1 => moreP sg (r1.length + 1) [s] r1 := ht
   show match (nameP r).unit with | .ok _ r => _ | .bad a e => _
   cases hq : nameP r with
   | ok s q =>
    have hs : s1 = s := strF_inj (hv s q hq); subst hs; have hl := nameP_len hq; rw [hq] at ht; refine ⟨by omega, [s1], rfl, ?_, ht⟩
    exact ⟨[.string ⟨s1.toArray⟩], [], rfl, rfl, CellsAt.lit rfl (CellsAt.nil _ _), rfl⟩
   | bad a c => rw [hq] at ht; exact ht
  | bad a c => exact ht
 have HI := hid hi; have HG := hid hG; have HW3 := hid hw3; clear hi hg on hw3 hG hGB hd2 hv o2 HT2 H1 O1 J
 go_wp2_with fail
 rw [HG.out, HW3.out]; clear HG HW3
 go_loopw [5] (fun v5 wr => Hid (NMF w b all sg total v5 wr)) (fun _ wr => muF wr b all)
 case atStart => exact HI
 case round =>
  obtain ⟨σ, n, xs, hsd, hown, hn, hn0, hon, hsm⟩ := hrel.out; obtain ⟨aL, cL, eL, fL1, fL2, fL3⟩ := own_form hown; subst eL; have hbz := hbl; have T := hid (fEat_any b all σ sg wr hsd); unfold tookF at T; obtain ⟨bb, hbb⟩ := eX (tst σ (isT sg)); rw [hbb] at T; have HOW := hid hown; have HON := hid hon; have HSD := hid hsd; have HSM := hid hsm; have HFL := hid fL3; have HN := hid hn; have HBB := hid hbb; clear hown hon hsd hrel HI fL3 hn hsm hbb fL2
  cases bb with
  | false =>
   rw [if_neg (by decide)] at T
   go_wp2_with fail
   refine T.out.mono ?_
   rintro e w4 ⟨rfl, hd4, o4⟩; have hend : Q (.returned (.slice aL n cL)) w4 := by
    have hbb := HBB.out; have hsm := HSM.out; refine FO.out _ _ _ _ σ hd4 ?_ (fun x q ht => ?_) (HON.out.trans o4)
    ·cases σ with
     | ok u r =>
      obtain ⟨-, acc, -, -, h3⟩ := hsm; have hbb : isT sg r = false := hbb; rw [h3, moreP, if_neg (by rw [hbb]; decide)]; rfl
     | bad a d => have hsm : total = .bad a d := hsm; rw [hsm]; rfl
    ·cases σ with
     | ok u r =>
      obtain ⟨-, acc, h1, h2, h3⟩ := hsm; have hbb : isT sg r = false := hbb; rw [h3, moreP, if_neg (by rw [hbb]; decide)] at ht; injection ht with ht _; subst ht; have hrow : OwnRow w4 w.heap.size 9 1 (.slice aL n cL) (acc.map fun s => [strC s]) := OwnRow.only (w := wr) ⟨xs, by rw [List.length_map, h1]; exact HOW.out, h2⟩ o4 (fun k h1 h2 e => by have e : k = b := e; omega); exact CellAt.weaken (fun q _ h => h) _ _ hrow.cell |> fun h => by have := h; simpa [h1] using this
     | bad a d => have hsm : total = .bad a d := hsm; rw [hsm] at ht; cases ht
   have HEND := hid hend; clear hend hd4 o4 HSM HBB HOW
   go_wp2_with fail
   first
    | exact HEND.out
    | (go_ret; exact HEND.out)
  | true =>
   rw [if_pos rfl] at T; obtain ⟨r, hr⟩ : ∃ r, σ = .ok () r := by
    have := HBB.out
    cases σ with
    | ok u r => exact ⟨r, rfl⟩
    | bad a c => cases this
   subst hr; have hbr : isT sg r = true := HBB.out; have hmu := muF_ok HSD.out; obtain ⟨hfew, acc, hacc, hchk, htot⟩ := HSM.out; rw [moreP, if_pos hbr] at htot; have htl := isT_len hbr; have HMU := hid hmu; have HFEW := hid hfew; have HACC := hid hacc; have HCHK := hid hchk; have HTOT := hid htot; have HTL := hid htl; have HGL := hid HON.out.size; clear hmu hfew hacc hchk htot HSM HSD HBB hbr htl
   go_wp2_with fail
   refine T.out.mono ?_
   rintro e w4 ⟨rfl, hd4, o4⟩; have hd4 : Rf w4 b all (.ok () r.tail) := hd4; have J := hid (fName_any b all _ w4 hd4); have O4 := hid o4; clear o4 hd4 T
   go_wp2_with fail
   refine J.out.mono ?_
   rintro ee w2 ⟨v, rfl, ⟨s0, rfl⟩, hd2, hv, o2'⟩; have o2 := O4.out.trans o2'; have hg := heap_new w2 (.cells #[.string ⟨s0.toArray⟩] 9); have hg2 : w2.heap.size = (w2.alloc (.cells #[.string ⟨s0.toArray⟩] 9)).heap.size - 1 := by simp
   have on := (Only.refl (fun _ => False) w2).alloc (.cells #[.string ⟨s0.toArray⟩] 9); have hs2 : wr.heap.size ≤ w2.heap.size := o2.size; have p1 := own_only' (own_only' HOW.out o2 (fun k hk e => by have := (HFL.out k hk).1; have := HGL.out; omega)) on (fun _ _ h => h); have p2 := (HCHK.out.only o2 (fun k hk e => by have := hk.1; have := HGL.out; omega)).only on (fun _ _ h => h); have hd3 := hd2.still on; have ho3 := (HON.out.trans o2).trans' on (fun _ _ h => h.elim); have hv3 : ∀ x q, nameP r.tail = .ok x q → s0 = x := fun x q e => strF_inj (hv x q e)
   obtain ⟨G, hG⟩ := eX (w2.heap.size); rw [hG] at hg hs2 hg2; obtain ⟨w3, hw3⟩ := eX (w2.alloc (.cells #[.string ⟨s0.toArray⟩] 9)); rw [hw3] at hg on p1 p2 hd3 ho3 hg2; have hys : ∀ j u, ([.string ⟨s0.toArray⟩] : List Value)[j]? = some u → w3.cell? ((⟨G, 0, none⟩ : Addr).add j) = some u := fun j u hu => by rw [addr_add]; exact range_of_block hg j u hu
   have hone : ∀ u ∈ ([.string ⟨s0.toArray⟩] : List Value), u.oneCell' = true := by intro u hu; simp at hu; rcases hu with rfl; rfl
   have HP1 := hid p1; have HP2 := hid p2; have HYS := hid hys; have HONE := hid hone; have HV3 := hid hv3; have HD3 := hid hd3; have HO3 := hid ho3; have HG := hid hG; have HW3 := hid hw3; have HS2 := hid hs2; have HG2 := hid hg2; clear p1 p2 hys hone hv3 hd3 ho3 hG hw3 hs2 hg2 hg on hv hd2 o2 o2' J HOW HCHK O4
   go_wp2_with ((rw [HG.out, HW3.out]; refine wpList_append_own2 (o := ⟨some 19, _, _, _, _, _⟩) rfl (.tmp 15) (.tmp 18) 32 9 (by rfl) Tryz.underlying32 infoStrF rfl (by decide) w.heap.size (.slice aL n cL) n 1 1 xs [.string ⟨s0.toArray⟩] ⟨G, 0, none⟩ (by rfl) (by rfl) HP1.out (by rfl) HYS.out HONE.out (by have := HN.out; unfold maxLen; omega) (by have := HN.out; omega) (by have := HG2.out; have := HS2.out; have := HGL.out; omega) ?_; intro v' w9 q1 q2 q3))
   have hfl2 := HFL.out; obtain ⟨aL', cL', eL', gL1, gL2, gL3⟩ := own_form q1; subst eL'; have hqo : Only (fun k => k = b) w w9 := HO3.out.trans' q2 (fun q hq h => by have := (hfl2 q h).1; omega); have hd9 := HD3.out.only q2 (fun k hk h => by have := (hfl2 k h).1; omega); have hi : NMF w b all sg total (.slice aL' (n + 1) cL') w9 ∧ muF w9 b all < muF wr b all := by
    have htot := HTOT.out; have hmu := HMU.out; have hfew := HFEW.out; have htl := HTL.out; have hchk9 : ∀ x q, nameP r.tail = .ok x q → Chk w9 (fun q => w.heap.size ≤ q ∧ (Value.slice aL' (n + 1) cL').ownBlock ≠ some q ∧ q < w9.heap.size) 1 ((acc ++ [x]).map fun s => [strC s]) (xs ++ [.string ⟨s0.toArray⟩]) := fun x q e => by
     have hx : CellsAt w3 (fun q => w.heap.size ≤ q ∧ (Value.slice aL n cL).ownBlock ≠ some q ∧ q < wr.heap.size) [strC x] [.string ⟨s0.toArray⟩] := by rw [HV3.out x q e]; exact CellsAt.lit rfl (CellsAt.nil _ _)
     have := ((Chk.snoc rfl hx HP2.out).only q2 (fun k hk => hk.2.1)).weaken (G' := fun q => w.heap.size ≤ q ∧ (Value.slice aL' (n + 1) cL').ownBlock ≠ some q ∧ q < w9.heap.size) (fun q hq h => ⟨h.1, fun e2 => by
      rcases q3 q e2 with h2 | h2
      ·exact h.2.1 h2
      ·have := h.2.2; have := HG2.out; have := HS2.out; omega, hq⟩)
     rw [List.map_append, List.map_singleton]; exact this
    cases hq : nameP r.tail with
    | bad a d =>
     have hσ : ((PR.ok () r.tail : PR Unit).bind fun _ => nameP).unit = .bad a d := by show (nameP r.tail).unit = _; rw [hq]; rfl
     rw [hσ] at hd9; rw [hq] at htot; refine ⟨⟨.bad a d, n + 1, _, hd9, q1, by omega, by omega, hqo, htot⟩, ?_⟩
     rw [hmu, muF_bad hd9]; omega
    | ok x r2 =>
     have hσ : ((PR.ok () r.tail : PR Unit).bind fun _ => nameP).unit = .ok () r2 := by show (nameP r.tail).unit = _; rw [hq]; rfl
     rw [hσ] at hd9; have hl := nameP_len hq; rw [hq] at htot; have htot : total = moreP sg r.length (acc ++ [x]) r2 := htot; refine ⟨⟨.ok () r2, n + 1, _, hd9, q1, by omega, by omega, hqo, ⟨by omega, acc ++ [x], by rw [List.length_append, List.length_singleton, HACC.out], hchk9 x r2 hq, by rw [htot]; exact moreP_fuel sg _ _ _ _ (by omega) (by omega)⟩⟩, ?_⟩
     rw [hmu, muF_ok hd9]; omega
   have HI2 := hid hi.1; have HLT := hid hi.2; clear hi hd9 hqo q1 q2 q3 gL1 gL2 gL3 hfl2 HP1 HP2 HYS HONE HV3 HFL HD3 HO3 HTOT
   go_wp2_with fail
   go_roundw
   case rel => first | exact HI2 | ((repeat apply Exists.intro); exact HI2)
   case measure => exact HLT.out
end Go.Proofs.YtnkpoddbbdmipaaGreatDoor
