/- . -/
import Derived.Test.YtnkpoddbbdmipaaGreatDoorTDcRha
namespace Go.Proofs.YtnkpoddbbdmipaaGreatDoor
open Go Go.RowKit
open Go.Lib (hid)
set_option linter.unusedVariables false
set_option linter.unusedSimpArgs false
theorem infoDrF : (Tryz.prog.info? 96).map (fun i => (i.zero, i.size, i.bytes)) = some (some (.agg #[.string ByteArray.empty, .slice none 0 0]), 2, 40) := by kernel_rfl
def DI (n : Nat) (tl : PR (List DR)) (w : World) (b : Nat) (all : RL) (v : Value) (wr : World) : Prop :=
 ∃ (σ : PR Unit) (rs : List (List Cell)), Rf wr b all σ ∧ OwnRow wr w.heap.size 96 2 v rs ∧ Only (fun k => k = b) w wr ∧ rs.length ≤ 1000000 ∧ (∀ u r, σ = .ok u r → rs.length + r.length ≤ 1000000 ∧ ∃ acc, rs = acc.map dirC ∧ tl = dirsP n (r.length + 1) acc r) ∧ (∀ a e, σ = .bad a e → tl = .bad a e)
set_option maxRecDepth 100000 in
set_option maxHeartbeats 40000000 in
theorem fdirs_any (n : Nat) (b : Nat) (all : RL) (hdp : all.dp + n = 24) (σ0 : PR Unit) (w : World) (h : Rf w b all σ0) :
  Calls Tryz.prog 94 #[.pointer (some ⟨b, 0, none⟩)] w (FAns w b all σ0 (rowP w.heap.size 2 dirC) rowF (fun r => dirsP n (r.length + 1) [] r)) := by
 have hbl := h.lt; obtain ⟨tl, htl⟩ := eX ((σ0.bind fun _ => (fun r => dirsP n (r.length + 1) [] r))); have HPP := hid (show ∀ w' (a : Option Addr) (l e : Nat) σ, Rf w' b all σ → σ = tl.unit → (∀ x q, tl = .ok x q → CellAt w' (fun q => w.heap.size ≤ q) (.row 2 (x.map dirC)) (.slice a l e)) → Only (fun k => k = b) w w' → FAns w b all σ0 (rowP w.heap.size 2 dirC) rowF (fun r => dirsP n (r.length + 1) [] r) (.returned (.slice a l e)) w' from fun w' a l e σ h1 h2 h3 h4 => ⟨_, rfl, ⟨a, l, e, rfl⟩, by rw [htl, ← h2]; exact h1, fun x q e => h3 x q (by rw [← htl]; exact e), h4⟩); have HI := hid (show DI n tl w b all (.slice none 0 0) w from ⟨σ0, [], h, OwnRow.nil _ _ _ _, oR, by simp, fun u r e => ⟨by have h := h; rw [e] at h; have := h.few.1; simp; omega, [], rfl, by rw [← htl, e]; rfl⟩, fun a e h => by rw [← htl, h]; rfl⟩); have HLO := hid hbl; have HDP := hid hdp; have HWLO := hid (Nat.le_refl w.heap.size); clear htl h hdp
 generalize (FAns w b all σ0 (rowP w.heap.size 2 dirC) rowF (fun r => dirsP n (r.length + 1) [] r)) = Q at *
 go_enter Tryz.func94, Tryz.ntmps94
 go_wp2_with fail
 go_loopw [3] (fun v3 wr => Hid (DI n tl w b all v3 wr)) (fun _ wr => muF wr b all)
 case atStart => exact HI
 case round =>
  obtain ⟨σ, rs, hd, hown, hon, hfw, hok, hbad⟩ := hrel.out; obtain ⟨aL, cL, eL, fL1, fL2, fL3⟩ := hown.form; subst eL; have fL2n : cL ≤ 9223372036854775807 := by unfold maxLen at fL2; omega
  have T := hid (fEat_any b all σ [64] wr hd); unfold tookF at T; obtain ⟨bb, hb⟩ := eX (tst σ (isT [64])); rw [hb] at T; have HBT := hid hb; have HOWN := hid hown; have HDr := hid hd; have HOr := hid hon; have HOK := hid hok; have HBAD := hid hbad; have HFL := hid fL3; have HFW := hid hfw; have HLW := hid (show w.heap.size ≤ wr.heap.size from hon.size); clear hown hd hon hok hbad fL2 fL3 hrel HI hb hfw
  cases bb with
  | false =>
   rw [if_neg (by decide)] at T
   go_wp2_with fail
   refine T.out.mono ?_
   rintro e w4 ⟨rfl, hd4, o4⟩; have HW4 := HOWN.out.only o4 (fun k h1 h2 e => by have e : k = b := e; have := HLO.out; omega)
   have HEND := hid (show Q (.returned (.slice aL rs.length cL)) w4 from by
    cases σ with
    | ok u r =>
     obtain ⟨_, acc, hacc, htl⟩ := HOK.out _ _ rfl; have hbb : isT [64] r = false := HBT.out; have htl : tl = .ok acc r := by rw [htl, dirsP, if_neg (by rw [hbb]; decide)]
     exact HPP.out w4 aL rs.length cL (.ok u r) hd4 (by rw [htl]; rfl) (fun x q e => by rw [htl] at e; injection e with e _; subst e; rw [← hacc]; exact HW4.cell) (HOr.out.trans o4)
    | bad a c =>
     have htl := HBAD.out _ _ rfl
     exact HPP.out w4 aL rs.length cL (.bad a c) hd4 (by rw [htl]; rfl) (fun x q e => by rw [htl] at e; cases e) (HOr.out.trans o4))
   clear hd4 o4 HW4 T
   go_wp2_with fail
   first
    | exact HEND.out
    | (go_ret; exact HEND.out)
  | true =>
   rw [if_pos rfl] at T; obtain ⟨rr, rfl⟩ : ∃ r, σ = .ok () r := by
    have := HBT.out
    cases σ with
    | ok u r => exact ⟨r, rfl⟩
    | bad a c => cases this
   have hbr : isT [64] rr = true := HBT.out; obtain ⟨hfew, acc, hacc, htl⟩ := HOK.out _ _ rfl; rw [dirsP, if_pos hbr] at htl; have hlt := isT_len hbr; have HTE := hid htl; have HACC := hid hacc; have HLT := hid hlt; have HFW2 := hid hfew; have HFEW := hid (show rs.length + 1 ≤ 1000000 by omega); clear htl hacc hlt hfew hbr
   go_wp2_with fail
   refine T.out.mono ?_
   rintro e w0 ⟨rfl, hd0, ho0⟩; have hd0 : Rf w0 b all (.ok () rr.tail) := hd0; obtain ⟨σ0', hs0⟩ : ∃ σ : PR Unit, PR.ok () rr.tail = σ := ⟨_, rfl⟩; rw [hs0] at hd0; obtain ⟨total, htot⟩ := eX (dirP n rr.tail); have hj := Jn.start σ0' (dirP n); rw [← hs0, show ((PR.ok () rr.tail : PR Unit).bind fun _ => dirP n) = total from htot, hs0] at hj; unfold dirP at hj; obtain ⟨σ0, hss⟩ := eX (σ0'); rw [hss] at hj hd0; have HJ0 := hid hj; have HD0 := hid hd0; have HO0 := hid ho0; have HTOT := hid htot; clear hs0 hd0 ho0 htot hj T HBT hss; have J := hid (fName_any b all σ0 w0 HD0.out)
   go_wp2_with fail
   refine J.out.mono ?_
   rintro e w1 ⟨v, rfl, ⟨s1, rfl⟩, hd, hv, o4⟩; have hv : ∀ x q, (σ0.bind fun _ => nameP) = .ok x q → s1 = x := fun x q e => strF_inj (hv x q e)
   obtain ⟨σ1, hσ⟩ := eX ((σ0.bind fun _ => nameP).unit); rw [hσ] at hd; have hj := Jn.call (fun x => s1 = x) HJ0.out hσ.symm hv; have HJ1 := hid hj; have HD1 := hid hd; clear hj hd hv hσ HJ0 J; have HO1 := hid (HO0.out.trans' o4 (fun q hq e => by exact e)); clear o4; clear HO0 HD0; obtain ⟨Y, hY⟩ := eX (w1.heap.size); have HWY := hid (show wr.heap.size ≤ Y by have := HO1.out.size; omega); have hbY : b < Y := by have := HD1.out.lt; omega
   obtain ⟨w2, hw2⟩ := eX (w1.alloc (.cells #[.string ⟨s1.toArray⟩, .slice none 0 0] 96)); have hy2 : w2.heap[Y]? = some (.cells #[.string ⟨s1.toArray⟩, .slice none 0 0] 96 (0, 0)) := by rw [← hw2, ← hY]; exact heap_new _ _
   have oa2 : Only (fun _ => False) w1 w2 := by rw [← hw2]; exact (Only.refl _ _).alloc _
   have HY2 := hid hy2; have HD2 := hid (HD1.out.still oa2); have HO2 := hid (HO1.out.trans' oa2 (fun q _ e => e.elim)); have HW2 := hid hw2; have HYY := hid hY; have HJ2 := HJ1; clear hy2 hw2 hY oa2 HD1 HO1 HJ1
   go_upto_region 4 with (fail)
   rw [HYY.out, HW2.out]; clear HYY HW2; have J := hid (fargs_any n b all HDP.out σ1 w2 HD2.out)
   go_wp2_with fail
   refine J.out.mono ?_
   rintro e w3 ⟨v, rfl, ⟨ar3, lr3, cr3, rfl⟩, hd, hv, o4⟩; have hsy : Y < w2.heap.size := (gE HY2.out).1; have hv : ∀ x q, (σ1.bind fun _ => argsP n) = .ok x q → CellAt w3 (fun q => Y < q) (.row 6 (x.map argC)) (.slice ar3 lr3 cr3) := fun x q e => CellAt.weaken (fun q _ h => by have h : w2.heap.size ≤ q := h; show Y < q; omega) _ _ (hv x q e)
   obtain ⟨σ3, hσ⟩ := eX ((σ1.bind fun _ => argsP n).unit); rw [hσ] at hd; have hj := Jn.call (fun x => CellAt w3 (fun q => Y < q) (.row 6 (x.map argC)) (.slice ar3 lr3 cr3)) HJ2.out hσ.symm hv; have HJ3 := hid hj; have HD3 := hid hd; clear hj hd hv hσ HJ2 J hsy; have hy3 := kB o4 HY2.out (by omega); have HY3 := hid hy3; have HO3 := hid (HO2.out.trans' o4 (fun q hq e => by exact e)); clear hy3; have HC3_3 := hid (Only.refl (fun k => k ≤ Y) w3); clear o4; clear HO2 HD2 HY2; obtain ⟨y0, y1, yz⟩ := boxN2 HY3.out
   go_upto_region 5 with (fail)
   clear y0 y1 yz; have hy4 := heap_set (o := 1) HY3.out (.slice ar3 lr3 cr3); have hy4 : (w3.setCell ⟨Y, 1, none⟩ (.slice ar3 lr3 cr3)).heap[Y]? = some (.cells #[.string ⟨s1.toArray⟩, .slice ar3 lr3 cr3] 96 (0, 0)) := by simpa using hy4
   have os4 : Only (fun k => k = Y) w3 (w3.setCell ⟨Y, 1, none⟩ (.slice ar3 lr3 cr3)) := (Only.refl (fun k => k = Y) _).setCell (p := ⟨Y, 1, none⟩) (.inl rfl) _; obtain ⟨w4, hw4⟩ := eX (w3.setCell ⟨Y, 1, none⟩ (.slice ar3 lr3 cr3)); rw [hw4] at hy4 os4; rw [hw4]; clear hw4; have HY4 := hid hy4; have HD4 := hid (HD3.out.only os4 (fun k hk e => by omega)); have HJ4 := HJ3; have HC3_4 := hid (HC3_3.out.trans' os4 (fun q hq e => by have e : q = Y := e; show q ≤ Y; omega)); have HO4 := hid (HO3.out.trans' os4 (fun q hq e => by have e : q = Y := e; have := HWY.out; omega)); clear hy4 os4 HJ3; clear HO3 HD3 HY3 HC3_3; obtain ⟨hdn, hxs⟩ := HJ4.out.done; have o3 := HC3_4.out; have hvc : ∀ x q, total = .ok x q → CellsAt w4 (fun q => Y < q ∧ q < w4.heap.size) (dirC x) [.string ⟨s1.toArray⟩, .slice ar3 lr3 cr3] := fun x q e => by
    obtain ⟨⟨⟨u, n1⟩, l1⟩, rfl, ⟨⟨-, k1⟩, k3⟩⟩ := hxs x q e; subst k1; exact CellsAt.lit rfl (CellsAt.cons (CellAt.weaken (G' := fun q => Y < q ∧ q < w4.heap.size) (fun q hq h => ⟨h, hq⟩) _ _ (CellAt.only o3 (fun k hk e => by have hk : Y < k := hk; have e : k ≤ Y := e; omega) _ _ k3)) (CellsAt.nil _ _))
   have hdz : Rf w4 b all total.unit := by rw [← hdn]; exact HD4.out
   obtain ⟨row, hrow, hrx⟩ := elem_row (P := total) (enc := dirC) (ys := [.string ⟨s1.toArray⟩, .slice ar3 lr3 cr3]) hvc (by intro u hu; simp at hu; rcases hu with rfl | rfl <;> rfl); have HDZ := hid hdz; have HROW := hid hrow; have HRX := hid hrx; clear hdn hxs hvc hdz hrow hrx HD4 HJ4 o3; obtain ⟨G, hG⟩ := eX (w4.heap.size); obtain ⟨wA, hwa⟩ := eX (w4.alloc (.cells #[.string ⟨s1.toArray⟩, .slice ar3 lr3 cr3] 96)); have og : Only (fun _ => False) w4 wA := by rw [← hwa]; exact (Only.refl _ _).alloc _
   have hgg : wA.heap[G]? = some (.cells #[.string ⟨s1.toArray⟩, .slice ar3 lr3 cr3] 96 (0, 0)) := by rw [← hwa, ← hG]; exact heap_new _ _
   have hgs : G + 1 = wA.heap.size := by rw [← hwa, World.size_alloc, hG]
   have hgw : wr.heap.size ≤ G := by have := HO4.out.size; omega
   have HOA := hid (HO4.out.trans' og (fun q _ e => e.elim)); have hw0 : OwnRow wA w.heap.size 96 2 (.slice aL rs.length cL) rs := HOWN.out.only HOA.out (fun k h1 h2 e => by have e : k = b := e; have := HLO.out; omega); have HRA := hid (show CellsAt wA (fun q => w.heap.size ≤ q ∧ (Value.slice aL rs.length cL).ownBlock ≠ some q ∧ q < wA.heap.size) row [.string ⟨s1.toArray⟩, .slice ar3 lr3 cr3] from CellsAt.weaken (fun q hq h => by have h1 : Y < q := h.1; have := HWY.out; have := HLW.out; exact ⟨by omega, fun e => by have := (HFL.out q e).2; omega, hq⟩) _ _ (CellsAt.only og (fun _ _ h => h) _ _ HROW.out)); have HDA := hid (HDZ.out.still og); obtain ⟨xs, p1', p2'⟩ := hw0; have hys : ∀ j u, ([.string ⟨s1.toArray⟩, .slice ar3 lr3 cr3] : List Value)[j]? = some u → wA.cell? ((⟨G, 0, none⟩ : Addr).add j) = some u := fun j u hu => by rw [addr_add]; exact range_of_block (cs := [.string ⟨s1.toArray⟩, .slice ar3 lr3 cr3]) hgg j u hu
   have hone : ∀ u ∈ ([.string ⟨s1.toArray⟩, .slice ar3 lr3 cr3] : List Value), u.oneCell' = true := by intro u hu; simp at hu; rcases hu with rfl | rfl <;> rfl
   have HYS := hid hys; have HONE := hid hone; have HP1 := hid p1'; have HP2 := hid p2'; have HG := hid hG; have HWA := hid hwa; have HGS := hid hgs; have HGW := hid hgw; clear hys hone p1' p2' hG hwa hgs hgg og hgw; obtain ⟨y0, y1, yz⟩ := boxN2 HY4.out
   go_wp2_with ((rw [HG.out, HWA.out]; refine wpList_append_own2 (o := ⟨some 16, _, _, _, _, _⟩) rfl (.tmp 13) (.tmp 15) 50 96 (by rfl) Tryz.underlying50 infoDrF rfl (by decide) w.heap.size (.slice aL rs.length cL) rs.length 1 1 xs [.string ⟨s1.toArray⟩, .slice ar3 lr3 cr3] ⟨G, 0, none⟩ (by rfl) (by rfl) HP1.out (by rfl) HYS.out HONE.out (by have := HFEW.out; unfold maxLen; omega) (by have := HFEW.out; omega) (by have := HGS.out; have := HGW.out; have := HLW.out; omega) ?_; intro v' wZ q1 q2 q3; obtain ⟨aL', cL', eL', gL1, gL2, -⟩ := own_form q1; subst eL'; clear y0 y1 yz))
   have hF := HFL.out; have hrow2 := OwnRow.append HP1.out HP2.out rfl HRA.out q1 q2 q3; have hdd := HDA.out.only q2 (fun k hk h => by have := (hF k h).1; have := HLO.out; omega); have hoo : Only (fun k => k = b) w wZ := (HOr.out.trans HOA.out).trans' q2 (fun q hq h => by have := (hF q h).1; have := HWLO.out; omega); have hnew : DI n tl w b all (.slice aL' (rs.length + 1) cL') wZ := by
    have htl := HTE.out; rw [HTOT.out] at htl; have hf2 := HFW2.out; have hlt := HLT.out; refine ⟨total.unit, rs ++ [row], hdd, hrow2, hoo, by rw [List.length_append, List.length_singleton]; have := HFEW.out; omega, fun u r e => ?_, fun a e h => ?_⟩
    ·cases hq : total with
     | bad a c => rw [hq] at e; cases e
     | ok x r1 =>
      rw [hq] at e htl
      injection e with _ e; subst e
      have hl := dirP_takes n _ _ _ (HTOT.out.trans hq); refine ⟨by rw [List.length_append, List.length_singleton]; omega, acc ++ [x], by rw [HACC.out, HRX.out x _ hq, List.map_append]; rfl, ?_⟩
      exact htl.trans (dirsP_fuel n _ _ _ _ (by omega) (by omega))
    ·cases hq : total with
     | bad a' c' => rw [hq] at h htl; injection h with h1 h2; subst h1; subst h2; exact htl
     | ok x r1 => rw [hq] at h; cases h
   have hmu : muF wZ b all < muF wr b all := by
    rw [muF_ok HDr.out]; have hlt := HLT.out
    cases hq : total with
    | bad p q => rw [hq] at hdd; rw [muF_bad hdd]; omega
    | ok x r2 => rw [hq] at hdd; rw [muF_ok (u := ()) hdd]; have := dirP_takes n _ _ _ (HTOT.out.trans hq); omega
   have HNEW := hid hnew; have HMU := hid hmu; clear hnew hmu hoo hdd hrow2 q1 q2 q3 gL1 gL2 hF HOA HRA HDA HDZ HO4 HY4
   go_wp2_with fail
   go_roundw
   case rel => exact HNEW
   case measure => exact HMU.out
end Go.Proofs.YtnkpoddbbdmipaaGreatDoor
