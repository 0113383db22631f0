/- . -/
import Derived.Test.YtnkpoddbbdmipaaGreatDoorTApRfw
import Derived.Test.YtnkpoddbbdmipaaGreatDoorTApEnD
import Derived.Test.YtnkpoddbbdmipaaGreatDoorTApPnt
import Derived.Test.YtnkpoddbbdmipaaGreatDoorTApOwD
import Derived.Test.YtnkpoddbbdmipaaGreatDoorTApLI
namespace Go.Proofs.YtnkpoddbbdmipaaGreatDoor
open Go Go.RowKit
open Go.Lib (hid)
set_option linter.unusedVariables false
set_option linter.unusedSimpArgs false
theorem infoArF : (Tryz.prog.info? 48).map (fun i => (i.zero, i.size, i.bytes)) = some (some (.agg #[.string ByteArray.empty, .int .u8 0, .int .i64 0, .string ByteArray.empty, .slice none 0 0, .slice none 0 0]), 6, 96) := by kernel_rfl
set_option maxRecDepth 100000 in
set_option maxHeartbeats 40000000 in
theorem fargs_any (n : Nat) (b : Nat) (all : RL) (hdp : all.dp + n = 24) (σ0 : PR Unit) (w : World) (h : Rf w b all σ0) :
  Calls Tryz.prog 93 #[.pointer (some ⟨b, 0, none⟩)] w (FAns w b all σ0 (rowP w.heap.size 6 argC) rowF (argsP n)) := by
 have hbl := h.lt; have T := hid (fEat_any b all σ0 [40] w h); have hsg := h.sign 40 [] (by decide); unfold tookF at T; rw [hsg] at T; obtain ⟨bb, hb⟩ := eX (tst σ0 (isS [40])); rw [hb] at T
 cases bb with
 | false =>
  have hp : (σ0.bind fun _ => argsP n) = σ0.bind fun _ r => .ok [] r := by
   cases σ0 with
   | bad a c => rfl
   | ok u r =>
    have hb : isS [40] r = false := hb
    show argsP n r = .ok [] r
    unfold argsP; rw [if_neg (by rw [hb]; decide)]
  have HP := hid (show ∀ w', Rf w' b all σ0 → Only (fun k => k = b) w w' → FAns w b all σ0 (rowP w.heap.size 6 argC) rowF (argsP n) (.returned (.slice none 0 0)) w' from fun w' h1 h2 => ⟨_, rfl, ⟨none, 0, 0, rfl⟩, by rw [hp]; cases σ0 <;> exact h1, fun x q e => by rw [hp] at e; cases σ0 with
   | bad a c => cases e
   | ok u r => injection e with e _; subst e; exact CellAt.nilRow _ _ _, h2⟩)
  rw [if_neg (by decide)] at T; clear h hp hb hsg
  generalize (FAns w b all σ0 (rowP w.heap.size 6 argC) rowF (argsP n)) = Q at *
  go_enter Tryz.func93, Tryz.ntmps93
  go_wp2_with fail
  refine T.out.mono ?_
  rintro e w1 ⟨rfl, hd, o1⟩; have HE := hid (HP.out w1 hd o1); clear hd o1
  go_wp2_with fail
  first
   | exact HE.out
   | (go_ret; exact HE.out)
 | true =>
  obtain ⟨r, rfl⟩ : ∃ r, σ0 = .ok () r := by
   cases σ0 with
   | ok u r => exact ⟨r, rfl⟩
   | bad a c => cases hb
  have hbr : isS [40] r = true := hb; have htl0 := isT_len (isS_T hbr); have hp : ((PR.ok () r : PR Unit).bind fun _ => argsP n) = loopP (argP n) [41] true [] r.tail := by
   show argsP n r = _
   unfold argsP; rw [if_pos hbr]; exact manyP_loop (argP_takes n) _ _ _ (by omega)
  obtain ⟨tl, htl⟩ := eX (loopP (argP n) [41] true [] r.tail); rw [htl] at hp; have HPW := hid (show ∀ w' (a : Option Addr) (l e : Nat) σ, Rf w' b all σ → σ = tl.unit → (∀ x q, tl = .ok x q → CellAt w' (fun q => w.heap.size ≤ q) (.row 6 (x.map argC)) (.slice a l e)) → Only (fun k => k = b) w w' → FAns w b all (.ok () r) (rowP w.heap.size 6 argC) rowF (argsP n) (.returned (.slice a l e)) w' from fun w' a l e σ h1 h2 h3 h4 => ⟨_, rfl, ⟨a, l, e, rfl⟩, by rw [hp, ← h2]; exact h1, fun x q e => h3 x q (by rw [← hp]; exact e), h4⟩); rw [if_pos rfl] at T; have HTL0 := hid htl; clear h hp hb hsg hbr htl0 htl; have HDP := hid hdp; clear hdp
  generalize (FAns w b all (.ok () r) (rowP w.heap.size 6 argC) rowF (argsP n)) = Q at *
  obtain ⟨f, hf⟩ := eX (argP n)
  go_enter Tryz.func93, Tryz.ntmps93
  go_wp2_with fail
  refine T.out.mono ?_
  rintro e w1 ⟨rfl, hd, o1⟩; have hd : Rf w1 b all (.ok () r.tail) := hd; have hls := LS.start (p := argP n) (c := [41]) true (K := fun acc => ([] : List (List Cell)) = acc.map argC) rfl (σ := .ok () r.tail) (fun u r e => by injection e with _ e; subst e; exact hd.few.1); rw [show ((PR.ok () r.tail : PR Unit).bind fun _ r => loopP (argP n) [41] true [] r) = tl from HTL0.out] at hls; have HI := hid (show LI (argP n) [41] argC 6 48 tl w b all w.heap.size (.slice none 0 0) true w1 from ⟨.ok () r.tail, [], hd, OwnRow.nil _ _ _ _, o1, hls⟩); have HPP := HPW; have HLO := hid hbl; have HWLO := hid (Nat.le_refl w.heap.size); have HTK := hid (argP_takes n); clear hd o1 T hls HPW hf
  go_wp2_with fail
  go_loopw [3, 4] (fun v5 v6 wr => ∃ first : Bool, v6 = .bool first ∧ Hid (LI (argP n) [41] argC 6 48 tl w b all w.heap.size v5 first wr)) (fun _ _ wr => muF wr b all)
  case atStart => exact ⟨true, rfl, HI⟩
  case round =>
   obtain ⟨first, rfl, hrel⟩ := hrel; obtain ⟨σ, rs, hd, hown, hon, hls⟩ := hrel.out; obtain ⟨aL, cL, eL, fL1, fL2, fL3⟩ := hown.form; subst eL; have fL2n : cL ≤ 9223372036854775807 := by unfold maxLen at fL2; omega
   have HOWN := hid hown; have HDr := hid hd; have HOr := hid hon; have HLS := hid hls; have HFL := hid fL3; have HLW := hid (show w.heap.size ≤ wr.heap.size from hon.size); obtain ⟨e0, ce, cz, hσ⟩ := hd.err; clear hown hd hon hls fL2 fL3 hrel HI
   rcases hσ with ⟨rr, rfl, rfl⟩ | ⟨ab, rfl, he0⟩
   rotate_left
   ·-- a fault: the loop ends
    have t1 : ((e0 : Int) == 0) = false := by simp; omega
    have htl := HLS.out.bad _ _ rfl; have HEND := hid (HPP.out wr aL rs.length cL (.bad ab e0) HDr.out (by rw [htl]; rfl) (fun x q e => (by rw [htl] at e; cases e)) HOr.out); clear htl he0
    go_wp2_with fail
    clear ce cz
    first
     | exact HEND.out
     | (go_ret; exact HEND.out)
   have T := hid (fEat_any b all (.ok () rr) [41] wr HDr.out); unfold tookF at T; obtain ⟨bb, hb⟩ := eX (tst (.ok () rr : PR Unit) (isT [41])); rw [hb] at T; have HBT := hid (show isT [41] rr = bb from hb); clear hb
   by_cases hstop : first = false ∧ bb = true
   ·obtain ⟨rfl, rfl⟩ := hstop; rw [if_pos rfl] at T; obtain ⟨acc, hK, htl⟩ := HLS.out.stop HBT.out; have HK := hid hK; have HTL := hid htl; clear hK htl
    go_wp2_with fail
    refine T.out.mono ?_
    rintro e w20 ⟨rfl, hd, o4⟩; clear ce cz; have HW20 := HOWN.out.only o4 (fun k h1 h2 e => by have e : k = b := e; have := HLO.out; omega); have HEND := hid (HPP.out w20 aL rs.length cL (.ok () rr.tail) hd (by rw [HTL.out]; rfl) (fun x q e => (by rw [HTL.out] at e; injection e with e _; subst e; rw [← HK.out]; exact HW20.cell)) (HOr.out.trans o4)); clear hd o4 T HW20
    go_wp2_with fail
    first
     | exact HEND.out
     | (go_ret; exact HEND.out)
   have hcl : first = true ∨ isT [41] rr = false := by
    have := HBT.out
    cases first with
    | true => exact .inl rfl
    | false => right; rw [this]; cases bb with | false => rfl | true => exact absurd ⟨rfl, rfl⟩ hstop
   have hfb : first = true ∨ (first = false ∧ bb = false) := by
    cases first with
    | true => exact .inl rfl
    | false => right; cases bb with | false => exact ⟨rfl, rfl⟩ | true => exact absurd ⟨rfl, rfl⟩ hstop
   have HCL := hid hcl; have HFEW := hid (show rs.length + 1 ≤ 1000000 by have h1 := (HLS.out.ok _ _ rfl).1; have h2 := HDr.out.few.2; omega); clear hcl hstop
   go_upto_region 5 with (fail)
   go_cut [21] from 9 to 21 (fun v w' => v = .bool true ∧ Rf w' b all (.ok () rr) ∧ Only (fun k => k = b) wr w')
   case first =>
    clear HCL HFEW
    rcases hfb with rfl | ⟨rfl, rfl⟩
    ·have HDD := HDr; clear T
     go_wp2_with fail
     clear ce cz
     go_meet
     case rel => exact ⟨rfl, HDD.out, oR⟩
    ·rw [if_neg (by decide)] at T
     go_wp2_with fail
     refine T.out.mono ?_
     rintro e w20 ⟨rfl, hd, o4⟩; have HD2 := hid hd; have HO2 := hid o4; clear ce cz hd o4
     go_wp2_with fail
     go_meet
     case rel => exact ⟨rfl, HD2.out, HO2.out⟩
   case rest =>
   obtain ⟨rfl, hd0, ho0⟩ := hcut; obtain ⟨w0, hw0⟩ := eX (wc); rw [hw0] at hd0 ho0 ⊢; obtain ⟨σ0, hs0⟩ : ∃ σ : PR Unit, PR.ok () rr = σ := ⟨_, rfl⟩; rw [hs0] at hd0; obtain ⟨total, htot⟩ := eX ((argP n) rr); have hj := Jn.start σ0 (argP n); rw [← hs0, show ((PR.ok () rr : PR Unit).bind fun _ => (argP n)) = total from htot, hs0] at hj; have HD0 := hid hd0; have HO0 := hid ho0; have HTOT := hid htot; clear hw0 hs0 hd0 ho0 htot T HBT ce cz hfb; unfold argP at hj; have HJ0 := hid hj; clear hj; have J := hid (fName_any b all σ0 w0 HD0.out)
   go_wp2_with fail
   refine J.out.mono ?_
   rintro e w1 ⟨v, rfl, ⟨s1, rfl⟩, hd, hv, o4⟩; have hv : ∀ x q, (σ0.bind fun _ => nameP) = .ok x q → s1 = x := fun x q e => strF_inj (hv x q e)
   obtain ⟨σ1, hσ⟩ := eX ((σ0.bind fun _ => nameP).unit); rw [hσ] at hd; have hj := Jn.call (fun x => s1 = x) HJ0.out hσ.symm hv; have HJ1 := hid hj; have HD1 := hid hd; clear hj hd hv hσ HJ0 J; have HO1 := hid (HO0.out.trans' o4 (fun q hq e => by exact e)); clear o4; clear HO0 HD0; obtain ⟨Y, hY⟩ := eX (w1.heap.size); have HWY := hid (show wr.heap.size ≤ Y by have := HO1.out.size; omega); have hbY : b < Y := by have := HD1.out.lt; omega
   obtain ⟨w2, hw2⟩ := eX (w1.alloc (.cells #[.string ⟨s1.toArray⟩, .int .u8 0, .int .i64 0, .string ⟨#[]⟩, .slice none 0 0, .slice none 0 0] 48)); have hy2 : w2.heap[Y]? = some (.cells #[.string ⟨s1.toArray⟩, .int .u8 0, .int .i64 0, .string ⟨#[]⟩, .slice none 0 0, .slice none 0 0] 48 (0, 0)) := by rw [← hw2, ← hY]; exact heap_new _ _
   have oa2 : Only (fun _ => False) w1 w2 := by rw [← hw2]; exact (Only.refl _ _).alloc _
   have HY2 := hid hy2; have HD2 := hid (HD1.out.still oa2); have HO2 := hid (HO1.out.trans' oa2 (fun q _ e => e.elim)); have HW2 := hid hw2; have HYY := hid hY; have HJ2 := HJ1; clear hy2 hw2 hY oa2 HD1 HO1 HJ1
   go_upto_region 8 with (fail)
   rw [HYY.out, HW2.out]; clear HYY HW2; have J := hid (fMust_any b all σ1 [58] w2 HD2.out)
   go_wp2_with fail
   refine J.out.mono ?_
   rintro e w3 ⟨rfl, hd, o4⟩; have hv : ∀ x q, (σ1.bind fun _ => wantP [58]) = .ok x q → True := fun _ _ _ => trivial
   obtain ⟨σ3, hσ⟩ := eX ((σ1.bind fun _ => wantP [58]).unit); rw [hσ] at hd; have hj := Jn.call (fun _ => True) HJ2.out hσ.symm hv; have HJ3 := hid hj; have HD3 := hid hd; clear hj hd hv hσ HJ2 J; have hy3 := kB o4 HY2.out (by omega); have HY3 := hid hy3; have HO3 := hid (HO2.out.trans' o4 (fun q hq e => by exact e)); clear hy3; clear o4; clear HO2 HD2 HY2; have J := hid (fValue_any n false b all σ3 w3 HDP.out HD3.out)
   go_wp2_with fail
   refine J.out.mono ?_
   rintro e w4 ⟨v, rfl, ⟨kd, nm, sv, a1, l1, p1, a2, l2, p2, rfl⟩, hd, hv, o4⟩; have hsy : Y < w3.heap.size := (gE HY3.out).1; have hv : ∀ x q, (σ3.bind fun _ => valueP false n) = .ok x q → CellsAt w4 (fun q => Y < q) (valC x) [.int .u8 (kd : Int), .int .i64 nm, .string ⟨sv.toArray⟩, .slice a1 l1 p1, .slice a2 l2 p2] := fun x q e => CellsAt.weaken (fun q _ h => by have h : w3.heap.size ≤ q := h; show Y < q; omega) _ _ (aggF_cells (hv x q e))
   obtain ⟨σ4, hσ⟩ := eX ((σ3.bind fun _ => valueP false n).unit); rw [hσ] at hd; have hj := Jn.call (fun x => CellsAt w4 (fun q => Y < q) (valC x) [.int .u8 (kd : Int), .int .i64 nm, .string ⟨sv.toArray⟩, .slice a1 l1 p1, .slice a2 l2 p2]) HJ3.out hσ.symm hv; have HJ4 := hid hj; have HD4 := hid hd; clear hj hd hv hσ HJ3 J hsy; have hy4 := kB o4 HY3.out (by omega); have HY4 := hid hy4; have HO4 := hid (HO3.out.trans' o4 (fun q hq e => by exact e)); clear hy4; have HC4_4 := hid (Only.refl (fun k => k ≤ Y) w4); clear o4; clear HO3 HD3 HY3
   go_upto_region 10 with ((refine wpList_store_part (o := ⟨none, _, _, _, _, _⟩) rfl 35 (.tmp 29) (.tmp 28) (by rfl) Y 1 48 [.string ⟨s1.toArray⟩] [.int .u8 0, .int .i64 0, .string ⟨#[]⟩, .slice none 0 0, .slice none 0 0] [.int .u8 (kd : Int), .int .i64 nm, .string ⟨sv.toArray⟩, .slice a1 l1 p1, .slice a2 l2 p2] [] (by rfl) (by rfl) HY4.out (by rfl) (by rfl) (by kernel_rfl) (by intro u hu; simp at hu; rcases hu with rfl | rfl | rfl | rfl | rfl <;> rfl) ?_; intro w5 k1 k2))
   have hy5 : w5.heap[Y]? = some (.cells #[.string ⟨s1.toArray⟩, .int .u8 (kd : Int), .int .i64 nm, .string ⟨sv.toArray⟩, .slice a1 l1 p1, .slice a2 l2 p2] 48 (0, 0)) := k1; have HY5 := hid hy5; have HD5 := hid (HD4.out.only k2 (fun k hk e => by omega)); have HJ5 := HJ4; have HC4_5 := hid (HC4_4.out.trans' k2 (fun q hq e => by have e : q = Y := e; show q ≤ Y; omega)); have HO5 := hid (HO4.out.trans' k2 (fun q hq e => by have e : q = Y := e; have := HWY.out; omega)); clear hy5 k1 k2 HJ4; clear HO4 HD4 HY4 HC4_4; obtain ⟨hdn, hxs⟩ := HJ5.out.done; have o4 := HC4_5.out; have hvc : ∀ x q, total = .ok x q → CellsAt w5 (fun q => Y < q ∧ q < w5.heap.size) (argC x) [.string ⟨s1.toArray⟩, .int .u8 (kd : Int), .int .i64 nm, .string ⟨sv.toArray⟩, .slice a1 l1 p1, .slice a2 l2 p2] := fun x q e => by
    obtain ⟨⟨⟨⟨u, n1⟩, u2⟩, v1⟩, rfl, ⟨⟨⟨-, k1⟩, -⟩, k3⟩⟩ := hxs x q e; subst k1; exact CellsAt.lit rfl (CellsAt.weaken (G' := fun q => Y < q ∧ q < w5.heap.size) (fun q hq h => ⟨h, hq⟩) _ _ (CellsAt.only o4 (fun k hk e => by have hk : Y < k := hk; have e : k ≤ Y := e; omega) _ _ k3))
   have hdz : Rf w5 b all total.unit := by rw [← hdn]; exact HD5.out
   obtain ⟨row, hrow, hrx⟩ := elem_row (P := total) (enc := argC) (ys := [.string ⟨s1.toArray⟩, .int .u8 (kd : Int), .int .i64 nm, .string ⟨sv.toArray⟩, .slice a1 l1 p1, .slice a2 l2 p2]) hvc (by intro u hu; simp at hu; rcases hu with rfl | rfl | rfl | rfl | rfl | rfl <;> rfl); have HDZ := hid hdz; have HROW := hid hrow; have HRX := hid hrx; clear hdn hxs hvc hdz hrow hrx HD5 HJ5 o4; obtain ⟨G, hG⟩ := eX (w5.heap.size); obtain ⟨wA, hwa⟩ := eX (w5.alloc (.cells #[.string ⟨s1.toArray⟩, .int .u8 (kd : Int), .int .i64 nm, .string ⟨sv.toArray⟩, .slice a1 l1 p1, .slice a2 l2 p2] 48)); have og : Only (fun _ => False) w5 wA := by rw [← hwa]; exact (Only.refl _ _).alloc _
   have hgg : wA.heap[G]? = some (.cells #[.string ⟨s1.toArray⟩, .int .u8 (kd : Int), .int .i64 nm, .string ⟨sv.toArray⟩, .slice a1 l1 p1, .slice a2 l2 p2] 48 (0, 0)) := by rw [← hwa, ← hG]; exact heap_new _ _
   have hgs : G + 1 = wA.heap.size := by rw [← hwa, World.size_alloc, hG]
   have hgw : wr.heap.size ≤ G := by have := HO5.out.size; omega
   have HOA := hid (HO5.out.trans' og (fun q _ e => e.elim)); have hw0 : OwnRow wA w.heap.size 48 6 (.slice aL rs.length cL) rs := HOWN.out.only HOA.out (fun k h1 h2 e => by have e : k = b := e; have := HLO.out; omega); have HRA := hid (show CellsAt wA (fun q => w.heap.size ≤ q ∧ (Value.slice aL rs.length cL).ownBlock ≠ some q ∧ q < wA.heap.size) row [.string ⟨s1.toArray⟩, .int .u8 (kd : Int), .int .i64 nm, .string ⟨sv.toArray⟩, .slice a1 l1 p1, .slice a2 l2 p2] from CellsAt.weaken (fun q hq h => by have h1 : Y < q := h.1; have := HWY.out; have := HLW.out; exact ⟨by omega, fun e => by have := (HFL.out q e).2; omega, hq⟩) _ _ (CellsAt.only og (fun _ _ h => h) _ _ HROW.out)); have HDA := hid (HDZ.out.still og); obtain ⟨xs, p1', p2'⟩ := hw0; have hys : ∀ j u, ([.string ⟨s1.toArray⟩, .int .u8 (kd : Int), .int .i64 nm, .string ⟨sv.toArray⟩, .slice a1 l1 p1, .slice a2 l2 p2] : List Value)[j]? = some u → wA.cell? ((⟨G, 0, none⟩ : Addr).add j) = some u := fun j u hu => by rw [addr_add]; exact range_of_block (cs := [.string ⟨s1.toArray⟩, .int .u8 (kd : Int), .int .i64 nm, .string ⟨sv.toArray⟩, .slice a1 l1 p1, .slice a2 l2 p2]) hgg j u hu
   have hone : ∀ u ∈ ([.string ⟨s1.toArray⟩, .int .u8 (kd : Int), .int .i64 nm, .string ⟨sv.toArray⟩, .slice a1 l1 p1, .slice a2 l2 p2] : List Value), u.oneCell' = true := by intro u hu; simp at hu; rcases hu with rfl | rfl | rfl | rfl | rfl | rfl <;> rfl
   have HYS := hid hys; have HONE := hid hone; have HP1 := hid p1'; have HP2 := hid p2'; have HG := hid hG; have HWA := hid hwa; have HGS := hid hgs; have HGW := hid hgw; clear hys hone p1' p2' hG hwa hgs hgg og hgw; obtain ⟨y0, y1, y2, y3, y4, y5, yz⟩ := boxN6 HY5.out
   go_wp2_with ((rw [HG.out, HWA.out]; refine wpList_append_own2 (o := ⟨some 33, _, _, _, _, _⟩) rfl (.tmp 30) (.tmp 32) 49 48 (by rfl) Tryz.underlying49 infoArF rfl (by decide) w.heap.size (.slice aL rs.length cL) rs.length 1 1 xs [.string ⟨s1.toArray⟩, .int .u8 (kd : Int), .int .i64 nm, .string ⟨sv.toArray⟩, .slice a1 l1 p1, .slice a2 l2 p2] ⟨G, 0, none⟩ (by rfl) (by rfl) HP1.out (by rfl) HYS.out HONE.out (by have := HFEW.out; unfold maxLen; omega) (by have := HFEW.out; omega) (by have := HGS.out; have := HGW.out; have := HLW.out; omega) ?_; intro v' wZ q1 q2 q3; obtain ⟨aL', cL', eL', gL1, gL2, -⟩ := own_form q1; subst eL'; clear y0 y1 y2 y3 y4 y5 yz))
   have hF := HFL.out; have hrow2 := OwnRow.append HP1.out HP2.out rfl HRA.out q1 q2 q3; have hdd := HDA.out.only q2 (fun k hk h => by have := (hF k h).1; have := HLO.out; omega); have hoo : Only (fun k => k = b) w wZ := (HOr.out.trans HOA.out).trans' q2 (fun q hq h => by have := (hF q h).1; have := HWLO.out; omega); have hlss := HLS.out.next (K' := fun acc => rs ++ [row] = acc.map argC) HTK.out HDr.out.few.2 HCL.out (fun acc x q h1 h2 => by rw [h1, HRX.out x q (HTOT.out.symm.trans h2), List.map_append]; rfl); rw [HTOT.out] at hlss; have hmu : muF wZ b all < muF wr b all := by
    rw [muF_ok HDr.out]
    cases hq : total with
    | bad p q => rw [hq] at hdd; rw [muF_bad hdd]; omega
    | ok x r2 => rw [hq] at hdd; rw [muF_ok (u := ()) hdd]; have := HTK.out _ _ _ (HTOT.out.trans hq); omega
   have hnew : LI (argP n) [41] argC 6 48 tl w b all w.heap.size (.slice aL' (rs.length + 1) cL') false wZ := ⟨total.unit, rs ++ [row], hdd, hrow2, hoo, by rw [List.length_append, List.length_singleton]; exact hlss⟩; have HNEW := hid hnew; have HMU := hid hmu; clear hnew hmu hlss hoo hdd hrow2 q1 q2 q3 gL1 gL2 hF HOA HRA HDA HDZ HO5 HY5
   go_wp2_with fail
   go_roundw
   case rel => first | exact ⟨false, rfl, HNEW⟩ | ((repeat apply Exists.intro); refine ⟨?_, rfl⟩; exact ⟨false, rfl, HNEW⟩)
   case measure => exact HMU.out
theorem infoDrF : (Tryz.prog.info? 96).map (fun i => (i.zero, i.size, i.bytes)) = some (some (.agg #[.string ByteArray.empty, .slice none 0 0]), 2, 40) := by kernel_rfl
def DI (n : Nat) (tl : PR (List DR)) (w : World) (b : Nat) (all : RL) (v : Value) (wr : World) : Prop :=
 ∃ (σ : PR Unit) (rs : List (List Cell)), Rf wr b all σ ∧ OwnRow wr w.heap.size 96 2 v rs ∧ Only (fun k => k = b) w wr ∧ rs.length ≤ 1000000 ∧ (∀ u r, σ = .ok u r → rs.length + r.length ≤ 1000000 ∧ ∃ acc, rs = acc.map dirC ∧ tl = dirsP n (r.length + 1) acc r) ∧ (∀ a e, σ = .bad a e → tl = .bad a e)
set_option maxRecDepth 100000 in
set_option maxHeartbeats 40000000 in
theorem fdirs_any (n : Nat) (b : Nat) (all : RL) (hdp : all.dp + n = 24) (σ0 : PR Unit) (w : World) (h : Rf w b all σ0) :
  Calls Tryz.prog 94 #[.pointer (some ⟨b, 0, none⟩)] w (FAns w b all σ0 (rowP w.heap.size 2 dirC) rowF (fun r => dirsP n (r.length + 1) [] r)) := by
 have hbl := h.lt; obtain ⟨tl, htl⟩ := eX ((σ0.bind fun _ => (fun r => dirsP n (r.length + 1) [] r))); have HPP := hid (show ∀ w' (a : Option Addr) (l e : Nat) σ, Rf w' b all σ → σ = tl.unit → (∀ x q, tl = .ok x q → CellAt w' (fun q => w.heap.size ≤ q) (.row 2 (x.map dirC)) (.slice a l e)) → Only (fun k => k = b) w w' → FAns w b all σ0 (rowP w.heap.size 2 dirC) rowF (fun r => dirsP n (r.length + 1) [] r) (.returned (.slice a l e)) w' from fun w' a l e σ h1 h2 h3 h4 => ⟨_, rfl, ⟨a, l, e, rfl⟩, by rw [htl, ← h2]; exact h1, fun x q e => h3 x q (by rw [← htl]; exact e), h4⟩); have HI := hid (show DI n tl w b all (.slice none 0 0) w from ⟨σ0, [], h, OwnRow.nil _ _ _ _, oR, by simp, fun u r e => ⟨by have h := h; rw [e] at h; have := h.few.1; simp; omega, [], rfl, by rw [← htl, e]; rfl⟩, fun a e h => by rw [← htl, h]; rfl⟩); have HLO := hid hbl; have HDP := hid hdp; have HWLO := hid (Nat.le_refl w.heap.size); clear htl h hdp
 generalize (FAns w b all σ0 (rowP w.heap.size 2 dirC) rowF (fun r => dirsP n (r.length + 1) [] r)) = Q at *
 go_enter Tryz.func94, Tryz.ntmps94
 go_wp2_with fail
 go_loopw [3] (fun v3 wr => Hid (DI n tl w b all v3 wr)) (fun _ wr => muF wr b all)
 case atStart => exact HI
 case round =>
  obtain ⟨σ, rs, hd, hown, hon, hfw, hok, hbad⟩ := hrel.out; obtain ⟨aL, cL, eL, fL1, fL2, fL3⟩ := hown.form; subst eL; have fL2n : cL ≤ 9223372036854775807 := by unfold maxLen at fL2; omega
  have T := hid (fEat_any b all σ [64] wr hd); unfold tookF at T; obtain ⟨bb, hb⟩ := eX (tst σ (isT [64])); rw [hb] at T; have HBT := hid hb; have HOWN := hid hown; have HDr := hid hd; have HOr := hid hon; have HOK := hid hok; have HBAD := hid hbad; have HFL := hid fL3; have HFW := hid hfw; have HLW := hid (show w.heap.size ≤ wr.heap.size from hon.size); clear hown hd hon hok hbad fL2 fL3 hrel HI hb hfw
  cases bb with
  | false =>
   rw [if_neg (by decide)] at T
   go_wp2_with fail
   refine T.out.mono ?_
   rintro e w4 ⟨rfl, hd4, o4⟩; have HW4 := HOWN.out.only o4 (fun k h1 h2 e => by have e : k = b := e; have := HLO.out; omega)
   have HEND := hid (show Q (.returned (.slice aL rs.length cL)) w4 from by
    cases σ with
    | ok u r =>
     obtain ⟨_, acc, hacc, htl⟩ := HOK.out _ _ rfl; have hbb : isT [64] r = false := HBT.out; have htl : tl = .ok acc r := by rw [htl, dirsP, if_neg (by rw [hbb]; decide)]
     exact HPP.out w4 aL rs.length cL (.ok u r) hd4 (by rw [htl]; rfl) (fun x q e => by rw [htl] at e; injection e with e _; subst e; rw [← hacc]; exact HW4.cell) (HOr.out.trans o4)
    | bad a c =>
     have htl := HBAD.out _ _ rfl
     exact HPP.out w4 aL rs.length cL (.bad a c) hd4 (by rw [htl]; rfl) (fun x q e => by rw [htl] at e; cases e) (HOr.out.trans o4))
   clear hd4 o4 HW4 T
   go_wp2_with fail
   first
    | exact HEND.out
    | (go_ret; exact HEND.out)
  | true =>
   rw [if_pos rfl] at T; obtain ⟨rr, rfl⟩ : ∃ r, σ = .ok () r := by
    have := HBT.out
    cases σ with
    | ok u r => exact ⟨r, rfl⟩
    | bad a c => cases this
   have hbr : isT [64] rr = true := HBT.out; obtain ⟨hfew, acc, hacc, htl⟩ := HOK.out _ _ rfl; rw [dirsP, if_pos hbr] at htl; have hlt := isT_len hbr; have HTE := hid htl; have HACC := hid hacc; have HLT := hid hlt; have HFW2 := hid hfew; have HFEW := hid (show rs.length + 1 ≤ 1000000 by omega); clear htl hacc hlt hfew hbr
   go_wp2_with fail
   refine T.out.mono ?_
   rintro e w0 ⟨rfl, hd0, ho0⟩; have hd0 : Rf w0 b all (.ok () rr.tail) := hd0; obtain ⟨σ0', hs0⟩ : ∃ σ : PR Unit, PR.ok () rr.tail = σ := ⟨_, rfl⟩; rw [hs0] at hd0; obtain ⟨total, htot⟩ := eX (dirP n rr.tail); have hj := Jn.start σ0' (dirP n); rw [← hs0, show ((PR.ok () rr.tail : PR Unit).bind fun _ => dirP n) = total from htot, hs0] at hj; unfold dirP at hj; obtain ⟨σ0, hss⟩ := eX (σ0'); rw [hss] at hj hd0; have HJ0 := hid hj; have HD0 := hid hd0; have HO0 := hid ho0; have HTOT := hid htot; clear hs0 hd0 ho0 htot hj T HBT hss; have J := hid (fName_any b all σ0 w0 HD0.out)
   go_wp2_with fail
   refine J.out.mono ?_
   rintro e w1 ⟨v, rfl, ⟨s1, rfl⟩, hd, hv, o4⟩; have hv : ∀ x q, (σ0.bind fun _ => nameP) = .ok x q → s1 = x := fun x q e => strF_inj (hv x q e)
   obtain ⟨σ1, hσ⟩ := eX ((σ0.bind fun _ => nameP).unit); rw [hσ] at hd; have hj := Jn.call (fun x => s1 = x) HJ0.out hσ.symm hv; have HJ1 := hid hj; have HD1 := hid hd; clear hj hd hv hσ HJ0 J; have HO1 := hid (HO0.out.trans' o4 (fun q hq e => by exact e)); clear o4; clear HO0 HD0; obtain ⟨Y, hY⟩ := eX (w1.heap.size); have HWY := hid (show wr.heap.size ≤ Y by have := HO1.out.size; omega); have hbY : b < Y := by have := HD1.out.lt; omega
   obtain ⟨w2, hw2⟩ := eX (w1.alloc (.cells #[.string ⟨s1.toArray⟩, .slice none 0 0] 96)); have hy2 : w2.heap[Y]? = some (.cells #[.string ⟨s1.toArray⟩, .slice none 0 0] 96 (0, 0)) := by rw [← hw2, ← hY]; exact heap_new _ _
   have oa2 : Only (fun _ => False) w1 w2 := by rw [← hw2]; exact (Only.refl _ _).alloc _
   have HY2 := hid hy2; have HD2 := hid (HD1.out.still oa2); have HO2 := hid (HO1.out.trans' oa2 (fun q _ e => e.elim)); have HW2 := hid hw2; have HYY := hid hY; have HJ2 := HJ1; clear hy2 hw2 hY oa2 HD1 HO1 HJ1
   go_upto_region 4 with (fail)
   rw [HYY.out, HW2.out]; clear HYY HW2; have J := hid (fargs_any n b all HDP.out σ1 w2 HD2.out)
   go_wp2_with fail
   refine J.out.mono ?_
   rintro e w3 ⟨v, rfl, ⟨ar3, lr3, cr3, rfl⟩, hd, hv, o4⟩; have hsy : Y < w2.heap.size := (gE HY2.out).1; have hv : ∀ x q, (σ1.bind fun _ => argsP n) = .ok x q → CellAt w3 (fun q => Y < q) (.row 6 (x.map argC)) (.slice ar3 lr3 cr3) := fun x q e => CellAt.weaken (fun q _ h => by have h : w2.heap.size ≤ q := h; show Y < q; omega) _ _ (hv x q e)
   obtain ⟨σ3, hσ⟩ := eX ((σ1.bind fun _ => argsP n).unit); rw [hσ] at hd; have hj := Jn.call (fun x => CellAt w3 (fun q => Y < q) (.row 6 (x.map argC)) (.slice ar3 lr3 cr3)) HJ2.out hσ.symm hv; have HJ3 := hid hj; have HD3 := hid hd; clear hj hd hv hσ HJ2 J hsy; have hy3 := kB o4 HY2.out (by omega); have HY3 := hid hy3; have HO3 := hid (HO2.out.trans' o4 (fun q hq e => by exact e)); clear hy3; have HC3_3 := hid (Only.refl (fun k => k ≤ Y) w3); clear o4; clear HO2 HD2 HY2; obtain ⟨y0, y1, yz⟩ := boxN2 HY3.out
   go_upto_region 5 with (fail)
   clear y0 y1 yz; have hy4 := heap_set (o := 1) HY3.out (.slice ar3 lr3 cr3); have hy4 : (w3.setCell ⟨Y, 1, none⟩ (.slice ar3 lr3 cr3)).heap[Y]? = some (.cells #[.string ⟨s1.toArray⟩, .slice ar3 lr3 cr3] 96 (0, 0)) := by simpa using hy4
   have os4 : Only (fun k => k = Y) w3 (w3.setCell ⟨Y, 1, none⟩ (.slice ar3 lr3 cr3)) := (Only.refl (fun k => k = Y) _).setCell (p := ⟨Y, 1, none⟩) (.inl rfl) _; obtain ⟨w4, hw4⟩ := eX (w3.setCell ⟨Y, 1, none⟩ (.slice ar3 lr3 cr3)); rw [hw4] at hy4 os4; rw [hw4]; clear hw4; have HY4 := hid hy4; have HD4 := hid (HD3.out.only os4 (fun k hk e => by omega)); have HJ4 := HJ3; have HC3_4 := hid (HC3_3.out.trans' os4 (fun q hq e => by have e : q = Y := e; show q ≤ Y; omega)); have HO4 := hid (HO3.out.trans' os4 (fun q hq e => by have e : q = Y := e; have := HWY.out; omega)); clear hy4 os4 HJ3; clear HO3 HD3 HY3 HC3_3; obtain ⟨hdn, hxs⟩ := HJ4.out.done; have o3 := HC3_4.out; have hvc : ∀ x q, total = .ok x q → CellsAt w4 (fun q => Y < q ∧ q < w4.heap.size) (dirC x) [.string ⟨s1.toArray⟩, .slice ar3 lr3 cr3] := fun x q e => by
    obtain ⟨⟨⟨u, n1⟩, l1⟩, rfl, ⟨⟨-, k1⟩, k3⟩⟩ := hxs x q e; subst k1; exact CellsAt.lit rfl (CellsAt.cons (CellAt.weaken (G' := fun q => Y < q ∧ q < w4.heap.size) (fun q hq h => ⟨h, hq⟩) _ _ (CellAt.only o3 (fun k hk e => by have hk : Y < k := hk; have e : k ≤ Y := e; omega) _ _ k3)) (CellsAt.nil _ _))
   have hdz : Rf w4 b all total.unit := by rw [← hdn]; exact HD4.out
   obtain ⟨row, hrow, hrx⟩ := elem_row (P := total) (enc := dirC) (ys := [.string ⟨s1.toArray⟩, .slice ar3 lr3 cr3]) hvc (by intro u hu; simp at hu; rcases hu with rfl | rfl <;> rfl); have HDZ := hid hdz; have HROW := hid hrow; have HRX := hid hrx; clear hdn hxs hvc hdz hrow hrx HD4 HJ4 o3; obtain ⟨G, hG⟩ := eX (w4.heap.size); obtain ⟨wA, hwa⟩ := eX (w4.alloc (.cells #[.string ⟨s1.toArray⟩, .slice ar3 lr3 cr3] 96)); have og : Only (fun _ => False) w4 wA := by rw [← hwa]; exact (Only.refl _ _).alloc _
   have hgg : wA.heap[G]? = some (.cells #[.string ⟨s1.toArray⟩, .slice ar3 lr3 cr3] 96 (0, 0)) := by rw [← hwa, ← hG]; exact heap_new _ _
   have hgs : G + 1 = wA.heap.size := by rw [← hwa, World.size_alloc, hG]
   have hgw : wr.heap.size ≤ G := by have := HO4.out.size; omega
   have HOA := hid (HO4.out.trans' og (fun q _ e => e.elim)); have hw0 : OwnRow wA w.heap.size 96 2 (.slice aL rs.length cL) rs := HOWN.out.only HOA.out (fun k h1 h2 e => by have e : k = b := e; have := HLO.out; omega); have HRA := hid (show CellsAt wA (fun q => w.heap.size ≤ q ∧ (Value.slice aL rs.length cL).ownBlock ≠ some q ∧ q < wA.heap.size) row [.string ⟨s1.toArray⟩, .slice ar3 lr3 cr3] from CellsAt.weaken (fun q hq h => by have h1 : Y < q := h.1; have := HWY.out; have := HLW.out; exact ⟨by omega, fun e => by have := (HFL.out q e).2; omega, hq⟩) _ _ (CellsAt.only og (fun _ _ h => h) _ _ HROW.out)); have HDA := hid (HDZ.out.still og); obtain ⟨xs, p1', p2'⟩ := hw0; have hys : ∀ j u, ([.string ⟨s1.toArray⟩, .slice ar3 lr3 cr3] : List Value)[j]? = some u → wA.cell? ((⟨G, 0, none⟩ : Addr).add j) = some u := fun j u hu => by rw [addr_add]; exact range_of_block (cs := [.string ⟨s1.toArray⟩, .slice ar3 lr3 cr3]) hgg j u hu
   have hone : ∀ u ∈ ([.string ⟨s1.toArray⟩, .slice ar3 lr3 cr3] : List Value), u.oneCell' = true := by intro u hu; simp at hu; rcases hu with rfl | rfl <;> rfl
   have HYS := hid hys; have HONE := hid hone; have HP1 := hid p1'; have HP2 := hid p2'; have HG := hid hG; have HWA := hid hwa; have HGS := hid hgs; have HGW := hid hgw; clear hys hone p1' p2' hG hwa hgs hgg og hgw; obtain ⟨y0, y1, yz⟩ := boxN2 HY4.out
   go_wp2_with ((rw [HG.out, HWA.out]; refine wpList_append_own2 (o := ⟨some 16, _, _, _, _, _⟩) rfl (.tmp 13) (.tmp 15) 50 96 (by rfl) Tryz.underlying50 infoDrF rfl (by decide) w.heap.size (.slice aL rs.length cL) rs.length 1 1 xs [.string ⟨s1.toArray⟩, .slice ar3 lr3 cr3] ⟨G, 0, none⟩ (by rfl) (by rfl) HP1.out (by rfl) HYS.out HONE.out (by have := HFEW.out; unfold maxLen; omega) (by have := HFEW.out; omega) (by have := HGS.out; have := HGW.out; have := HLW.out; omega) ?_; intro v' wZ q1 q2 q3; obtain ⟨aL', cL', eL', gL1, gL2, -⟩ := own_form q1; subst eL'; clear y0 y1 yz))
   have hF := HFL.out; have hrow2 := OwnRow.append HP1.out HP2.out rfl HRA.out q1 q2 q3; have hdd := HDA.out.only q2 (fun k hk h => by have := (hF k h).1; have := HLO.out; omega); have hoo : Only (fun k => k = b) w wZ := (HOr.out.trans HOA.out).trans' q2 (fun q hq h => by have := (hF q h).1; have := HWLO.out; omega); have hnew : DI n tl w b all (.slice aL' (rs.length + 1) cL') wZ := by
    have htl := HTE.out; rw [HTOT.out] at htl; have hf2 := HFW2.out; have hlt := HLT.out; refine ⟨total.unit, rs ++ [row], hdd, hrow2, hoo, by rw [List.length_append, List.length_singleton]; have := HFEW.out; omega, fun u r e => ?_, fun a e h => ?_⟩
    ·cases hq : total with
     | bad a c => rw [hq] at e; cases e
     | ok x r1 =>
      rw [hq] at e htl
      injection e with _ e; subst e
      have hl := dirP_takes n _ _ _ (HTOT.out.trans hq); refine ⟨by rw [List.length_append, List.length_singleton]; omega, acc ++ [x], by rw [HACC.out, HRX.out x _ hq, List.map_append]; rfl, ?_⟩
      exact htl.trans (dirsP_fuel n _ _ _ _ (by omega) (by omega))
    ·cases hq : total with
     | bad a' c' => rw [hq] at h htl; injection h with h1 h2; subst h1; subst h2; exact htl
     | ok x r1 => rw [hq] at h; cases h
   have hmu : muF wZ b all < muF wr b all := by
    rw [muF_ok HDr.out]; have hlt := HLT.out
    cases hq : total with
    | bad p q => rw [hq] at hdd; rw [muF_bad hdd]; omega
    | ok x r2 => rw [hq] at hdd; rw [muF_ok (u := ()) hdd]; have := dirP_takes n _ _ _ (HTOT.out.trans hq); omega
   have HNEW := hid hnew; have HMU := hid hmu; clear hnew hmu hoo hdd hrow2 q1 q2 q3 gL1 gL2 hF HOA HRA HDA HDZ HO4 HY4
   go_wp2_with fail
   go_roundw
   case rel => exact HNEW
   case measure => exact HMU.out
end Go.Proofs.YtnkpoddbbdmipaaGreatDoor
