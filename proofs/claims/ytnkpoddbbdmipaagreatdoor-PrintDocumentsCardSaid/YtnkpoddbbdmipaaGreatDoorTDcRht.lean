/- . -/
import Derived.Test.YtnkpoddbbdmipaaGreatDoorTDcRhs
namespace Go.Proofs.YtnkpoddbbdmipaaGreatDoor
open Go Go.RowKit
open Go.Lib (hid)
set_option linter.unusedVariables false
set_option linter.unusedSimpArgs false
theorem infoSeF : (Tryz.prog.info? 53).map (fun i => (i.zero, i.size, i.bytes)) = some (some (.agg #[.int .u8 0, .string ByteArray.empty, .string ByteArray.empty, .string ByteArray.empty, .slice none 0 0, .slice none 0 0, .slice none 0 0]), 7, 128) := by kernel_rfl
theorem LS.retry {α : Type} {p : List Tok → PR α} {c : List UInt8} (hp : Takes p) {total : PR (List α)} {n : Nat} {K : List α → Prop} {σ : PR Unit} (h : LS p c total false n K σ) (hb : tst σ (isT c) = false) : LS p c total true n K σ := by
 refine ⟨h.few, fun u r e => ?_, h.bad⟩
 obtain ⟨h1, acc, h2, h3, h4⟩ := h.ok u r e; refine ⟨h1, acc, h2, h3, h4.trans ?_⟩
 subst e; rw [loop_step hp (.inr hb), loop_step hp (.inl rfl)]
def SI (p : List Tok → PR SL) (tl : PR (List SL)) (w : World) (b : Nat) (all : RL) (v : Value) (wr : World) : Prop :=
 ∃ (σ : PR Unit) (rs : List (List Cell)), Rf wr b all σ ∧ OwnRow wr w.heap.size 53 7 v rs ∧ Only (fun k => k = b) w wr ∧ LS p [125] tl true rs.length (fun acc => rs = acc.map selC) σ
set_option maxRecDepth 100000 in
set_option maxHeartbeats 40000000 in
theorem fset_any : ∀ (n : Nat) (b : Nat) (all : RL) (σ0 : PR Unit) (w : World), all.dp + n = 24 → Rf w b all σ0 →
  Calls Tryz.prog 39 #[.pointer (some ⟨b, 0, none⟩)] w (FAns w b all σ0 (rowP w.heap.size 7 selC) rowF (setP n))
 | n, b, all, .bad a c, w, hdp, h => by
  obtain ⟨hc, v, i, dv, c0, c1, c2, c3, c4, fz⟩ := h.bad_cells; have t1 : ((c : Int) == 0) = false := by simp; omega
  obtain ⟨xd, hxd⟩ := eX (IntKind.i64.wrap (dv - 1)); have h2 := h.deep all rfl xd (fun e => by cases e); have ho : Only (fun k => k = b) w (w.setCell ⟨b, 2, none⟩ (.int .i64 xd)) := (Only.refl (fun k => k = b) w).setCell (.inl rfl) _; obtain ⟨w1, hw1⟩ := eX (w.setCell ⟨b, 2, none⟩ (.int .i64 xd)); rw [hw1] at h2 ho; have HE := hid (show FAns w b all (.bad a c) (rowP w.heap.size 7 selC) rowF (setP n) (.returned (.slice none 0 0)) w1 from ⟨_, rfl, ⟨none, 0, 0, rfl⟩, h2, fun x q e => (by cases e), ho⟩); have HW1 := hid hw1; clear h h2 ho hw1 c0 c1 c3 hc
  generalize (FAns w b all (.bad a c) (rowP w.heap.size 7 selC) rowF (setP n)) = Q at *
  go_enter Tryz.func39, Tryz.ntmps39
  go_upto_region 9 with (fail)
  rw [HW1.out]; clear c2 c4 fz hxd
  go_wp2_with fail
  first
   | exact HE.out
   | (go_ret; exact HE.out)
 | 0, b, all, .ok u r, w, hdp, h => by
  have J := hid (fOpen_any b all (by omega) (.ok u r) w h); rw [show opn all.dp (.ok u r) = .bad (atT r) 5 from if_pos (by omega)] at J; have HD := hid (show all.dp ≤ 1000 by omega); obtain ⟨e0, ce, cz, hσ⟩ := h.err; have he0 : e0 = 0 := by rcases hσ with ⟨_, _, h⟩ | ⟨_, h, _⟩; exact h; cases h
  subst he0; have HPP := hid (show ∀ w', Rf w' b all (.bad (atT r) 5) → Only (fun k => k = b) w w' → FAns w b all (.ok u r) (rowP w.heap.size 7 selC) rowF (setP 0) (.returned (.slice none 0 0)) w' from fun w' h1 h2 => ⟨_, rfl, ⟨none, 0, 0, rfl⟩, h1, fun x q e => (by cases e), h2⟩); clear h hσ hdp
  generalize (FAns w b all (.ok u r) (rowP w.heap.size 7 selC) rowF (setP 0)) = Q at *
  go_enter Tryz.func39, Tryz.ntmps39
  go_wp2_with fail
  refine J.out.mono ?_
  rintro e w2 ⟨rfl, hd2, o2⟩; clear ce cz; obtain ⟨dv, kd2, kfz, -⟩ := Rf.dcell hd2; obtain ⟨xd, hxd⟩ := eX (IntKind.i64.wrap (dv - 1)); have hd3 := Rf.up hd2 HD.out kd2; rw [hxd] at hd3; have o3 : Only (fun k => k = b) w (w2.setCell ⟨b, 2, none⟩ (.int .i64 xd)) := o2.setCell (.inl rfl) _; obtain ⟨w3, hw3⟩ := eX (w2.setCell ⟨b, 2, none⟩ (.int .i64 xd)); rw [hw3] at hd3 o3; have HE := hid (HPP.out w3 hd3 o3); have HW3 := hid hw3; clear hd2 o2 hd3 o3 hw3 J
  go_upto_region 9 with (fail)
  rw [HW3.out]; clear hxd kd2 kfz
  go_wp2_with fail
  first
   | exact HE.out
   | (go_ret; exact HE.out)
 | n + 1, b, all, .ok u r, w, hdp, h => by
  have hbl := h.lt; have J := hid (fOpen_any b all (by omega) (.ok u r) w h); rw [show opn all.dp (.ok u r) = .ok () r from if_neg (by omega)] at J; have HD := hid (show all.dp ≤ 1000 by omega); have IH := hid (fun (σ : PR Unit) (w' : World) (h' : Rf w' b all.in_ σ) => fsel_any n b all.in_ (by show all.dp + 1 + n = 24; omega) (fun σ w2 h2 => fset_any n b all.in_ σ w2 (by show all.dp + 1 + n = 24; omega) h2) σ w' h'); obtain ⟨e0, ce, cz, hσ⟩ := h.err; have he0 : e0 = 0 := by rcases hσ with ⟨_, _, h⟩ | ⟨_, h, _⟩; exact h; cases h
  subst he0; obtain ⟨p, hp⟩ := eX (selP n (setP n)); have htk : Takes p := by rw [← hp]; exact selP_takes n (setP_takes n)
  rw [hp] at IH; obtain ⟨σ1, hσ1⟩ := eX ((wantP [123] r).unit); obtain ⟨tl, htl⟩ := eX ((σ1.bind fun _ r => loopP p [125] true [] r)); have htot : ((PR.ok u r : PR Unit).bind fun _ => setP (n + 1)) = tl := by
   rw [← htl, ← hσ1]
   show setP (n + 1) r = _
   rw [setP, hp]
   cases hq : wantP [123] r with
   | bad a e => rfl
   | ok u' r1 => exact manyP_loop htk _ _ _ (by omega)
  have HPP := hid (show ∀ w' (a : Option Addr) (l e : Nat) σ, Rf w' b all σ → σ = tl.unit → (∀ x q, tl = .ok x q → CellAt w' (fun q => w.heap.size ≤ q) (.row 7 (x.map selC)) (.slice a l e)) → Only (fun k => k = b) w w' → FAns w b all (.ok u r) (rowP w.heap.size 7 selC) rowF (setP (n + 1)) (.returned (.slice a l e)) w' from fun w' a l e σ h1 h2 h3 h4 => ⟨_, rfl, ⟨a, l, e, rfl⟩, by rw [htot, ← h2]; exact h1, fun x q e => h3 x q (by rw [← htot]; exact e), h4⟩); have HTL := hid htl; have HS1 := hid hσ1; have HTK := hid htk; clear h hσ hdp htl htot hσ1 htk hp
  generalize (FAns w b all (.ok u r) (rowP w.heap.size 7 selC) rowF (setP (n + 1))) = Q at *
  go_enter Tryz.func39, Tryz.ntmps39
  go_wp2_with fail
  refine J.out.mono ?_
  rintro e w1 ⟨rfl, hd1, o1⟩; clear ce cz; have J2 := hid (fMust_any b all.in_ (.ok () r) [123] w1 hd1); have O1 := hid o1; clear hd1 o1 J
  go_wp2_with fail
  refine J2.out.mono ?_
  rintro e w2 ⟨rfl, hd2, o2⟩; have hd2 : Rf w2 b all.in_ (wantP [123] r).unit := hd2; rw [HS1.out] at hd2; have hls := LS.start (p := p) (c := [125]) true (K := fun acc => ([] : List (List Cell)) = acc.map selC) rfl (σ := σ1) (fun u r e => by have h := hd2; rw [e] at h; exact h.few.1); rw [HTL.out] at hls; have HI := hid (show SI p tl w b all.in_ (.slice none 0 0) w2 from ⟨σ1, [], hd2, OwnRow.nil _ _ _ _, O1.out.trans o2, hls⟩); clear hd2 o2 hls J2 O1
  go_wp2_with fail
  go_loopw [3] (fun v3 wr => Hid (SI p tl w b all.in_ v3 wr)) (fun _ wr => muF wr b all.in_)
  case atStart => exact HI
  case round =>
   obtain ⟨σ, rs, hd, hown, hon, hls⟩ := hrel.out; obtain ⟨aL, cL, eL, fL1, fL2, fL3⟩ := hown.form; subst eL; have fL2n : cL ≤ 9223372036854775807 := by unfold maxLen at fL2; omega
   have HOWN := hid hown; have HDr := hid hd; have HOr := hid hon; have HLS := hid hls; have HFL := hid fL3; have HLW := hid (show w.heap.size ≤ wr.heap.size from hon.size); obtain ⟨e0, ce, cz, hσ⟩ := hd.err; clear hown hd hon hls fL2 fL3 hrel HI
   rcases hσ with ⟨rr, rfl, rfl⟩ | ⟨ab, rfl, he0⟩
   rotate_left
   ·-- a fault
    have t1 : ((e0 : Int) == 0) = false := by simp; omega
    have htl := HLS.out.bad _ _ rfl; obtain ⟨dv, kd2, kfz, -⟩ := Rf.dcell HDr.out; obtain ⟨xd, hxd⟩ := eX (IntKind.i64.wrap (dv - 1)); have hd3 := Rf.up HDr.out HD.out kd2; rw [hxd] at hd3; have o3 : Only (fun k => k = b) w (wr.setCell ⟨b, 2, none⟩ (.int .i64 xd)) := HOr.out.setCell (.inl rfl) _; obtain ⟨w3, hw3⟩ := eX (wr.setCell ⟨b, 2, none⟩ (.int .i64 xd)); rw [hw3] at hd3 o3; have HE := hid (HPP.out w3 aL rs.length cL (.bad ab e0) hd3 (by rw [htl]; rfl) (fun x q e => by rw [htl] at e; cases e) o3); have HW3 := hid hw3; clear hd3 o3 hw3 htl he0
    go_upto_region 9 with (fail)
    rw [HW3.out]; clear hxd kd2 kfz ce cz
    go_wp2_with fail
    first
     | exact HE.out
     | (go_ret; exact HE.out)
   have J := hid (IH.out (.ok () rr) wr HDr.out); have HFEW := hid (show rs.length + 1 ≤ 1000000 by have h1 := (HLS.out.ok _ _ rfl).1; have h2 := HDr.out.few.2; omega)
   go_wp2_with fail
   refine J.out.mono ?_
   rintro e w3 ⟨v, rfl, ⟨k, s0, s1, s2, a1, l1, e1, a2, l2, e2, a3, l3, e3, rfl⟩, hd3, hv, o3⟩; clear ce cz; have hd3 : Rf w3 b all.in_ (p rr).unit := hd3; have hvc : ∀ x q, p rr = .ok x q → CellsAt w3 (fun q => wr.heap.size ≤ q ∧ q < w3.heap.size) (selC x) [.int .u8 (k : Int), .string ⟨s0.toArray⟩, .string ⟨s1.toArray⟩, .string ⟨s2.toArray⟩, .slice a1 l1 e1, .slice a2 l2 e2, .slice a3 l3 e3] := fun x q e => CellsAt.weaken (fun q hq h => ⟨h, hq⟩) _ _ (aggF_cells (hv x q e))
   obtain ⟨row, hrow, hrx⟩ := elem_row (P := p rr) (enc := selC) (ys := [.int .u8 (k : Int), .string ⟨s0.toArray⟩, .string ⟨s1.toArray⟩, .string ⟨s2.toArray⟩, .slice a1 l1 e1, .slice a2 l2 e2, .slice a3 l3 e3]) hvc (by intro u hu; simp at hu; rcases hu with rfl | rfl | rfl | rfl | rfl | rfl | rfl <;> rfl); obtain ⟨X, hX⟩ := eX (w3.heap.size); obtain ⟨w4, hw4⟩ := eX (w3.alloc (.cells #[.int .u8 (k : Int), .string ⟨s0.toArray⟩, .string ⟨s1.toArray⟩, .string ⟨s2.toArray⟩, .slice a1 l1 e1, .slice a2 l2 e2, .slice a3 l3 e3] 53)); have o4 : Only (fun _ => False) w3 w4 := by rw [← hw4]; exact (Only.refl _ _).alloc _
   have hx4 : w4.heap[X]? = some (.cells #[.int .u8 (k : Int), .string ⟨s0.toArray⟩, .string ⟨s1.toArray⟩, .string ⟨s2.toArray⟩, .slice a1 l1 e1, .slice a2 l2 e2, .slice a3 l3 e3] 53 (0, 0)) := by rw [← hw4, ← hX]; exact heap_new _ _
   obtain ⟨G, hG⟩ := eX (w4.heap.size); obtain ⟨w5, hw5⟩ := eX (w4.alloc (.cells #[.int .u8 (k : Int), .string ⟨s0.toArray⟩, .string ⟨s1.toArray⟩, .string ⟨s2.toArray⟩, .slice a1 l1 e1, .slice a2 l2 e2, .slice a3 l3 e3] 53)); have o5 : Only (fun _ => False) w4 w5 := by rw [← hw5]; exact (Only.refl _ _).alloc _
   have hg5 : w5.heap[G]? = some (.cells #[.int .u8 (k : Int), .string ⟨s0.toArray⟩, .string ⟨s1.toArray⟩, .string ⟨s2.toArray⟩, .slice a1 l1 e1, .slice a2 l2 e2, .slice a3 l3 e3] 53 (0, 0)) := by rw [← hw5, ← hG]; exact heap_new _ _
   have hgs : G + 1 = w5.heap.size := by rw [← hw5, World.size_alloc, hG]
   have o05 : Only (fun k => k = b) wr w5 := (o3.trans' o4 (fun _ _ h => h.elim)).trans' o5 (fun _ _ h => h.elim); have hG1 : w.heap.size ≤ G := by have h1 := o3.size; have h2 := o4.size; have := HLW.out; omega
   have hys : ∀ j u, ([.int .u8 (k : Int), .string ⟨s0.toArray⟩, .string ⟨s1.toArray⟩, .string ⟨s2.toArray⟩, .slice a1 l1 e1, .slice a2 l2 e2, .slice a3 l3 e3] : List Value)[j]? = some u → w5.cell? ((⟨G, 0, none⟩ : Addr).add j) = some u := fun j u hu => by rw [addr_add]; exact range_of_block (cs := [.int .u8 (k : Int), .string ⟨s0.toArray⟩, .string ⟨s1.toArray⟩, .string ⟨s2.toArray⟩, .slice a1 l1 e1, .slice a2 l2 e2, .slice a3 l3 e3]) hg5 j u hu
   have hone : ∀ u ∈ ([.int .u8 (k : Int), .string ⟨s0.toArray⟩, .string ⟨s1.toArray⟩, .string ⟨s2.toArray⟩, .slice a1 l1 e1, .slice a2 l2 e2, .slice a3 l3 e3] : List Value), u.oneCell' = true := by intro u hu; simp at hu; rcases hu with rfl | rfl | rfl | rfl | rfl | rfl | rfl <;> rfl
   obtain ⟨xs, p1', p2'⟩ := HOWN.out.only o05 (fun k h1 h2 e => by have e : k = b := e; omega); have HX := hid hX; have HW4 := hid hw4; have HX4 := hid hx4; have HG := hid hG; have HW5 := hid hw5; have HYS := hid hys; have HONE := hid hone; have HP1 := hid p1'; have HP2 := hid p2'; have HGS := hid hgs; have HG1 := hid hG1; have HD5 := hid (hd3.still (o4.trans o5)); have HO5 := hid (HOr.out.trans o05); have HRX := hid hrx; have HV5 := hid (show CellsAt w5 (fun q => w.heap.size ≤ q ∧ (Value.slice aL rs.length cL).ownBlock ≠ some q ∧ q < w5.heap.size) row [.int .u8 (k : Int), .string ⟨s0.toArray⟩, .string ⟨s1.toArray⟩, .string ⟨s2.toArray⟩, .slice a1 l1 e1, .slice a2 l2 e2, .slice a3 l3 e3] from CellsAt.weaken (fun q hq h => ⟨by have := h.1; have := HLW.out; omega, fun e => by have h1 := h.1; have := (HFL.out q e).2; omega, hq⟩) _ _ (CellsAt.only (o4.trans o5) (fun _ _ h => h) _ _ hrow)); clear hX hw4 hx4 hG hw5 hys hone p1' p2' hd3 o4 o5 hg5 hv hvc o3 J hgs hrow hrx o05 hG1
   go_upto_region 6 with (fail)
   rw [HX.out, HW4.out]; clear HX HW4; obtain ⟨x0, x1, x2, x3, x4, x5, x6, -⟩ := boxN7 HX4.out
   go_wp2_with ((rw [HG.out, HW5.out]; refine wpList_append_own2 (o := ⟨some 26, _, _, _, _, _⟩) rfl (.tmp 23) (.tmp 25) 51 53 (by rfl) Tryz.underlying51 infoSeF rfl (by decide) w.heap.size (.slice aL rs.length cL) rs.length 1 1 xs [.int .u8 (k : Int), .string ⟨s0.toArray⟩, .string ⟨s1.toArray⟩, .string ⟨s2.toArray⟩, .slice a1 l1 e1, .slice a2 l2 e2, .slice a3 l3 e3] ⟨G, 0, none⟩ (by rfl) (by rfl) HP1.out (by rfl) HYS.out HONE.out (by have := HFEW.out; unfold maxLen; omega) (by have := HFEW.out; omega) (by have := HGS.out; have := HG1.out; omega) ?_; intro v' w9 q1 q2 q3; obtain ⟨aL', cL', eL', gL1, gL2, -⟩ := own_form q1; subst eL'; clear x0 x1 x2 x3 x4 x5 x6))
   have hF := HFL.out; have hrow2 := OwnRow.append HP1.out HP2.out rfl HV5.out q1 q2 q3; have hdd := HD5.out.only q2 (fun k hk h => by have := (hF k h).1; omega); have hoo : Only (fun k => k = b) w w9 := HO5.out.trans' q2 (fun q hq h => by have := (hF q h).1; omega); have hlss := HLS.out.next (K' := fun acc => rs ++ [row] = acc.map selC) HTK.out HDr.out.few.2 (.inl rfl) (fun acc x q h1 h2 => by rw [h1, HRX.out x q h2, List.map_append]; rfl); have T := hid (fEat_any b all.in_ (p rr).unit [125] w9 hdd); unfold tookF at T; obtain ⟨bb, hb⟩ := eX (tst (p rr).unit (isT [125])); rw [hb] at T; have HB := hid hb; have HROW := hid hrow2; have HOO := hid hoo; have HLSS := hid hlss; have hmu : ∀ wz, Rf wz b all.in_ (p rr).unit → muF wz b all.in_ < muF wr b all.in_ := fun wz hz => by
    rw [muF_ok HDr.out]
    cases hq : p rr with
    | bad a q => rw [hq] at hz; rw [muF_bad hz]; omega
    | ok x r2 => rw [hq] at hz; rw [muF_ok (u := ()) hz]; have := HTK.out _ _ _ hq; omega
   have HMU := hid hmu; clear hb hrow2 hdd hoo hlss hmu q1 q2 q3 gL1 gL2 HV5 HD5 HO5 hF
   cases bb with
   | false =>
    rw [if_neg (by decide)] at T
    go_wp2_with fail
    refine T.out.mono ?_
    rintro e w10 ⟨rfl, hd10, o10⟩; have HNEW := hid (show SI p tl w b all.in_ (.slice aL' (rs.length + 1) cL') w10 from ⟨_, rs ++ [row], hd10, HROW.out.only o10 (fun k h1 h2 e => by have e : k = b := e; omega), HOO.out.trans o10, by rw [List.length_append, List.length_singleton]; exact HLSS.out.retry HTK.out HB.out⟩); have HM2 := hid (HMU.out w10 hd10); clear hd10 o10 T
    go_wp2_with fail
    go_roundw
    case rel => exact HNEW
    case measure => exact HM2.out
   | true =>
    rw [if_pos rfl] at T; obtain ⟨x, r2, hq⟩ : ∃ x r2, p rr = .ok x r2 := by
     have := HB.out
     cases hq : p rr with
     | bad a e => rw [hq] at this; cases this
     | ok x r2 => exact ⟨x, r2, rfl⟩
    have hbr : isT [125] r2 = true := by have := HB.out; rw [hq] at this; exact this
    have hls2 := HLSS.out; rw [show (p rr).unit = .ok () r2 from by rw [hq]; rfl] at hls2; obtain ⟨acc, hK, htl⟩ := hls2.stop hbr; have HK := hid hK; have HTL2 := hid htl; have HQ := hid hq; clear hls2 hK htl hbr hq
    go_wp2_with fail
    refine T.out.mono ?_
    rintro e w10 ⟨rfl, hd10, o10⟩; rw [show adv (p rr).unit = .ok () r2.tail from by rw [HQ.out]; rfl] at hd10; obtain ⟨dv, kd2, kfz, -⟩ := Rf.dcell hd10; obtain ⟨xd, hxd⟩ := eX (IntKind.i64.wrap (dv - 1)); have hd3 := Rf.up hd10 HD.out kd2; rw [hxd] at hd3; have os : Only (fun k => k = b) w10 (w10.setCell ⟨b, 2, none⟩ (.int .i64 xd)) := (Only.refl (fun k => k = b) w10).setCell (.inl rfl) _; have o3 := (HOO.out.trans o10).trans os; have hrz := (HROW.out.only o10 (fun k h1 h2 e => by have e : k = b := e; omega)).only os (fun k h1 h2 e => by have e : k = b := e; omega); obtain ⟨w11, hw11⟩ := eX (w10.setCell ⟨b, 2, none⟩ (.int .i64 xd)); rw [hw11] at hd3 o3 hrz; have HE := hid (HPP.out w11 aL' (rs.length + 1) cL' (.ok () r2.tail) hd3 (by rw [HTL2.out]; rfl) (fun x q e => by rw [HTL2.out] at e; injection e with e _; subst e; rw [← HK.out]; exact hrz.cell) o3); have HW11 := hid hw11; clear hd10 o10 hd3 o3 hw11 hrz os T
    go_upto_region 9 with (fail)
    rw [HW11.out]; clear hxd kd2 kfz
    go_wp2_with fail
    first
     | exact HE.out
     | (go_ret; exact HE.out)
end Go.Proofs.YtnkpoddbbdmipaaGreatDoor
