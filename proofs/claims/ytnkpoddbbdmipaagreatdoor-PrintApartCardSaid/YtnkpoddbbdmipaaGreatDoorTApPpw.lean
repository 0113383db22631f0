/- . -/
import Derived.Test.YtnkpoddbbdmipaaGreatDoorTApPpv
namespace Go.Proofs.YtnkpoddbbdmipaaGreatDoor
open Go Go.RowKit
open Go.Lib (hid)
set_option linter.unusedVariables false
set_option linter.unusedSimpArgs false
def PV (v : VT) : Prop := ∀ (G : Nat → Prop) (w : World) (cs : List Value), CellsAt w G (valC v) cs → Tab w → (ren (valI v)).length ≤ 1000000000000 →
  Calls Tryz.prog 18 #[.agg cs.toArray] w (fun e w' => e = .returned (.string ⟨(ren (valI v)).toArray⟩) ∧ Only (fun _ => False) w w')
theorem ren_one (s t : List UInt8) (k : Nat) (n : Int) : ren [.tk k s t n] = s := by simp [ren, It.src]
set_option maxRecDepth 100000 in
set_option maxHeartbeats 16000000 in
theorem ppV_any : ∀ (v : VT), WellQ v → PV v := by
 intro v hw
 induction hw with
 | mk k n s ks vs h8 hn hk hv ih =>
 intro G w cs h ht hl; obtain ⟨kv, lv, rfl, hkk, hll⟩ := val_cells h; obtain ⟨ak, ck, rfl, hck, hck', hK⟩ := rows_at hkk; have HLL := hid hll; obtain ⟨av, cv, rfl, hcv, hcv', hV⟩ := rows_at hll; obtain ⟨L, hL⟩ := eX (vs.length); obtain ⟨LK, hLK⟩ := eX (ks.length); rw [hL] at hcv HLL ⊢; rw [hLK] at hck ⊢; obtain ⟨wb, hwb⟩ := eX (w.alloc (.cells #[.int .u8 k, .int .i64 n, .string ⟨s.toArray⟩, .slice ak LK ck, .slice av L cv] 35)); obtain ⟨bA, hbA⟩ := eX (w.heap.size); have ob : Only (fun _ => False) w wb := by rw [← hwb]; exact (Only.refl _ w).alloc _
 have hx1 : wb.heap[bA]? = some (.cells #[.int .u8 k, .int .i64 n, .string ⟨s.toArray⟩, .slice ak LK ck, .slice av L cv] 35 (0, 0)) := by rw [← hwb, ← hbA]; exact heap_new w _
 obtain ⟨c0, c1, c2, c3, c4, -⟩ := boxN5 hx1; obtain ⟨n0, n1⟩ := hn; have hsl0 : k = 4 ∨ k = 7 → s.length ≤ 1000000000000 := fun e => by
  rw [valI_eq] at hl
  rcases e with rfl | rfl
  ·rw [if_neg (by omega), if_neg (by omega), if_neg (by omega), if_pos rfl] at hl; simpa [ren, It.src, nmI] using hl
  ·rw [if_neg (by omega), if_neg (by omega), if_neg (by omega), if_neg (by omega), if_pos rfl] at hl; simp [ren, It.src, nmI, sgI] at hl; omega
 have hsq0 : k = 2 ∨ k = 8 → s.length ≤ 1000000000000 := fun e => by
  rw [valI_eq, if_neg (by omega), if_pos e] at hl; have := (escS_up s).1; simp [ren, It.src, quI, quoS] at hl; omega
 have HSL0 := hid hsl0; have HSQ0 := hid hsq0; obtain ⟨R, hR⟩ := eX (ren (valI (.mk k n s ks vs))); rw [hR] at hl ⊢; rw [valI_eq] at hR; have HT := hid (ht.still ob); have HC := hid (And.intro c0 (And.intro c1 (And.intro c2 (And.intro c3 c4)))); have HOB := hid ob; have HWB := hid hwb; have HBA := hid hbA; have HR := hid hR; have HKK := hid hK; have HVV := hid hV; have IH := hid ih; have HL := hid hL; have HLK := hid hLK; have HK := hid hk; have HLE := hid hl; clear hx1 ob hwb hbA hR hK hV ih hk hkk hll h hv hL hLK hl ht hsl0 hsq0
 go_enter Tryz.func18, Tryz.ntmps18
 go_upto_region 1 with (fail)
 rw [HWB.out, HBA.out]; clear HWB HBA
 match k, h8 with
 | 0, _ =>
  have hr : R = [110, 117, 108, 108] := by rw [← HR.out]; rfl
  subst hr
  go_wp2_with fail
  clear c0 c1 c2 c3 c4
  go_ret
  exact ⟨rfl, HOB.out⟩
 | 1, _ =>
  have hr : R = numS n := by rw [← HR.out, if_pos rfl]; exact ren_one _ _ _ _
  have HRR := hid hr; clear hr; have J := hid (pint_any n n0 n1 wb HT.out)
  go_wp2_with fail
  refine J.out.mono ?_
  rintro e w2 ⟨rfl, o2⟩; have HO2 := hid (HOB.out.trans o2); clear o2 c0 c1 c2 c3 c4
  go_wp2_with fail
  go_ret
  rw [HRR.out]; exact ⟨rfl, HO2.out⟩
 | 3, _ =>
  by_cases h1 : n = 1
  ·have hr : R = [116, 114, 117, 101] := by
    rw [← HR.out, if_neg (by omega), if_neg (by omega), if_pos rfl, if_pos h1]; exact ren_one _ _ _ _
   have t1 : (n == 1) = true := by simp [h1]
   have HRR := hid hr; clear hr h1; have J := hid (pbool_any true wb)
   go_wp2_with fail
   refine J.out.mono ?_
   rintro e w2 ⟨rfl, rfl⟩; clear c0 c1 c2 c3 c4
   go_wp2_with fail
   go_ret
   rw [HRR.out]; exact ⟨rfl, HOB.out⟩
  ·have hr : R = [102, 97, 108, 115, 101] := by
    rw [← HR.out, if_neg (by omega), if_neg (by omega), if_pos rfl, if_neg h1]; exact ren_one _ _ _ _
   have t1 : (n == 1) = false := by simp [h1]
   have HRR := hid hr; clear hr h1; have J := hid (pbool_any false wb)
   go_wp2_with fail
   refine J.out.mono ?_
   rintro e w2 ⟨rfl, rfl⟩; clear c0 c1 c2 c3 c4
   go_wp2_with fail
   go_ret
   rw [HRR.out]; exact ⟨rfl, HOB.out⟩
 | 4, _ =>
  have hr : R = s := by rw [← HR.out, if_neg (by omega), if_neg (by omega), if_neg (by omega), if_pos rfl]; exact ren_one _ _ _ _
  have HRR := hid hr; clear hr
  go_wp2_with fail
  clear c0 c1 c2 c3 c4
  go_ret
  rw [HRR.out]; exact ⟨rfl, HOB.out⟩
 | 7, _ =>
  have hr : R = [36] ++ s := by rw [← HR.out, if_neg (by omega), if_neg (by omega), if_neg (by omega), if_neg (by omega), if_pos rfl]; simp [ren, It.src, sgI, nmI]
  have HRR := hid hr; clear hr; have hsl : s.length ≤ 1000000000000 := HSL0.out (.inr rfl)
  go_wp2_with fail
  clear c0 c1 c2 c3 c4
  go_ret
  rw [HRR.out, ← cat_list]; exact ⟨rfl, HOB.out⟩
 | 5, _ =>
  have hr : R = [91] ++ Lib.join (vs.map fun v => ren (valI v)) [44, 32] ++ [93] := by
   rw [← HR.out, if_neg (by omega), if_neg (by omega), if_neg (by omega), if_neg (by omega), if_neg (by omega), if_pos rfl]; rw [ren_cons, ren_app, sep_join, List.map_map]; rfl
  have HRR := hid hr; have hjl : (Lib.join (vs.map fun v => ren (valI v)) [44, 32]).length ≤ 1000000000000 := by
   have := HLE.out; rw [hr] at this; simp at this; omega
  have hll := HLL.out
  have J := pjoinV_any vs (fun v => ren (valI v)) G wb (.slice av L cv) [44, 32] (by decide) (CellAt.only HOB.out (fun _ _ h => h) _ _ hll) (fun i hi wx cs ox hc => by
   have hpl := sep_part gapI (vs.map valI) i (by rw [List.length_map]; exact hi); rw [sep_join, List.map_map] at hpl; have hpl : (ren (valI vs[i])).length ≤ 1000000000000 := by
    have e : (vs.map valI)[i]'(by rw [List.length_map]; exact hi) = valI vs[i] := by simp
    rw [e] at hpl; exact Nat.le_trans hpl hjl
   exact IH.out vs[i] (List.getElem_mem hi) G wx cs hc (HT.out.still ox) hpl) hjl
  obtain ⟨jn, hjn⟩ := eX (Lib.join (vs.map fun v => ren (valI v)) [44, 32]); rw [hjn] at J hjl; have HRR2 := hid (hr.trans (by rw [hjn])); have J := hid J; clear hr HRR hll hjn
  go_wp2_with fail
  refine J.out.mono ?_
  rintro e w2 ⟨rfl, o2⟩; have HO2 := hid (HOB.out.trans o2); clear o2 c0 c1 c2 c3 c4
  go_wp2_with fail
  go_ret
  rw [HRR2.out, ← cat_list, ← cat_list]; exact ⟨rfl, HO2.out⟩
 | 6, _ =>
  have hk6 := HK.out; have hil := items_len hk6; have hig := items_get hk6; have hr : R = [123] ++ ren (sepI gapI (itemsV 6 ks vs)) ++ [125] := by
   rw [← HR.out, if_neg (by omega), if_neg (by omega), if_neg (by omega), if_neg (by omega), if_neg (by omega), if_neg (by omega), if_pos rfl]; rw [ren_cons, ren_app]; rfl
  have hall : (ren (sepI gapI (itemsV 6 ks vs))).length ≤ 1000000000000 := by
   have := HLE.out; rw [hr] at this; simp at this; omega
  have HRR := hid hr; have HIL := hid hil; have HIG := hid hig; have HALL := hid hall; clear hr hil hig hall hk6
  go_wp2_with fail
  clear c0 c1 c2 c3 c4
  go_loopw [3, 46] (fun x y wr => ∃ i : Nat, y = .int .i64 (i : Int) ∧ i ≤ L ∧ x = .string ⟨(ren (sepI gapI ((itemsV 6 ks vs).take i))).toArray⟩ ∧ Hid (Only (fun _ => False) wb wr)) (fun _ y _ => L - (intOf y).toNat)
  case atStart => exact ⟨0, rfl, by omega, by rw [sep_zero], hid oR⟩
  case round =>
   obtain ⟨i, rfl, hi, rfl, HO⟩ := hrel; have hal := Nat.le_trans (sep_le gapI (itemsV 6 ks vs) i) HALL.out
   by_cases hlt : i < L
   ·have t1 : decide ((i : Int) < (L : Int)) = true := decide_eq_true (by omega); have hi0 : (0 : Int) ≤ (i : Int) := by omega
    have hi1 : (i : Int) < (L : Int) := by omega
    have hvi : i < vs.length := by rw [HL.out]; exact hlt
    have hii : i < (itemsV 6 ks vs).length := by rw [HIL.out]; exact hvi
    have hnx := sep_next gapI (itemsV 6 ks vs) i hii; have hpl := Nat.le_trans (sep_part gapI (itemsV 6 ks vs) i hii) HALL.out; obtain ⟨-, hki, heq⟩ := (HIG.out i hvi hii).resolve_right (fun h => h.1 rfl); have hlk : LK = L := by
     rcases HK.out with h1 | h1 | ⟨_, h1⟩
     ·rw [h1] at hvi; simp at hvi
     ·omega
     ·rw [← HLK.out, ← HL.out, h1]
    have hik : (i : Int) < (LK : Int) := by omega
    obtain ⟨gv, ov, xs, rfl, hgv, hr, hc⟩ := HVV.out i hvi; obtain ⟨gk, ok, ys, rfl, hgk, hr2, hc2⟩ := HKK.out i hki; have := str_cell hc2; subst this; have e5 := keepc (HOB.out.trans HO.out) (hr2 0 _ rfl); rw [Nat.mul_one, Nat.add_zero] at e5; have hrec := fun (hlen : (ren (valI vs[i])).length ≤ 1000000000000) (wx : World) (ox : Only (fun _ => False) wb wx) => IH.out vs[i] (List.getElem_mem hvi) G wx xs (CellsAt.only (HOB.out.trans ox) (fun _ _ h => h) _ _ hc) (HT.out.still ox) hlen
    obtain ⟨k', n', s', ak', lk', ck2', av', lv', cv2', rfl⟩ := valC_form2 hc; obtain ⟨e0, e1, e2, e3, e4⟩ := cells5_of hr; have e0 := keepc (HOB.out.trans HO.out) e0; have e1 := keepc (HOB.out.trans HO.out) e1; have e2 := keepc (HOB.out.trans HO.out) e2; have e3 := keepc (HOB.out.trans HO.out) e3; have e4 := keepc (HOB.out.trans HO.out) e4; obtain ⟨X, hX⟩ := eX (wr.heap.size); obtain ⟨w4, hw4⟩ := eX (wr.alloc (.cells #[.int .u8 (k' : Int), .int .i64 n', .string ⟨s'.toArray⟩, .slice ak' lk' ck2', .slice av' lv' cv2'] 35)); have o4 : Only (fun _ => False) wr w4 := by rw [← hw4]; exact (Only.refl _ _).alloc _
    have hx4 : w4.heap[X]? = some (.cells #[.int .u8 (k' : Int), .int .i64 n', .string ⟨s'.toArray⟩, .slice ak' lk' ck2', .slice av' lv' cv2'] 35 (0, 0)) := by rw [← hw4, ← hX]; exact heap_new _ _
    obtain ⟨acc, hacc⟩ := eX (ren (sepI gapI ((itemsV 6 ks vs).take i))); obtain ⟨acc', hacc'⟩ : ∃ a, ren (sepI gapI ((itemsV 6 ks vs).take (i + 1))) = a := ⟨_, rfl⟩; have HA' := hid hacc'; rw [hacc] at hal hnx ⊢; rw [hacc', gap_ren, heq] at hnx; rw [heq] at hpl; obtain ⟨rv, hrv⟩ := eX (ren (valI vs[i])); rw [hrv] at hrec hnx hpl
    generalize ks[i] = ki at *
    simp only [List.length_append, List.length_cons, List.length_nil] at hpl; have hkl : ki.length ≤ 1000000000000 := by omega
    have hrl : rv.length ≤ 1000000000000 := by omega
    obtain ⟨acc1, hacc1⟩ := eX (acc ++ (if 0 < i then [44, 32] else [])); have hal1 : acc1.length ≤ 1000000000002 := by rw [← hacc1, List.length_append]; split <;> simp <;> omega
    have HREC := hid (hrec hrl); have HNX := hid (hnx.trans (by rw [hacc1])); have HACC1 := hid hacc1; have HX := hid hX; have HW4 := hid hw4; have HO4 := hid (HO.out.trans o4); have HX4 := hid hx4; have E5 := hid (keepc o4 e5); have hLK6 := hid hlk; clear hrec hnx hr hr2 hc hc2 heq hpl hrv hacc hacc' hacc1 hX hw4 o4 hx4 hlk hki
    go_upto_region 21 with (fail)
    rw [HX.out, HW4.out]; clear e0 e1 e2 e3 e4 e5 HX HW4
    go_upto_if 52 with (fail)
    go_cut [3] from 47 to 54 (fun v w' => v = .string ⟨acc1.toArray⟩ ∧ w' = w4)
    case first =>
     by_cases hz : 0 < i
     ·have t2 : decide ((i : Int) > 0) = true := decide_eq_true (by omega)
      go_wp2_with fail
      go_meet
      case rel => exact ⟨by rw [← HACC1.out, if_pos hz, ← cat_list], rfl⟩
     ·have t2 : decide ((i : Int) > 0) = false := decide_eq_false (by omega)
      go_wp2_with fail
      go_meet
      case rel => exact ⟨by rw [← HACC1.out, if_neg hz, List.append_nil], rfl⟩
    case rest =>
    obtain ⟨rfl, rfl⟩ := hcut
    go_upto_region 23 with (fail)
    obtain ⟨w5, hw5⟩ := eX (wc); rw [hw5] at HO4 HX4 E5 ⊢; clear hw5; refine wp_region_steps 11 (by kernel_rfl) rfl (by kernel_rfl) [some 55, some 56, some 57, some 58, some 59, some 60, some 61, some 62, some 63, some 64, some 65] rfl rfl (fun _ => False) [(fun v _ => v = (.string ⟨acc1.toArray⟩)), (fun v _ => v = (.pointer (some ⟨bA, 3, none⟩))), (fun v _ => v = (.slice (some ⟨gk, ok, none⟩) LK ck)), (fun v _ => v = (.int .i64 (i : Int))), (fun v _ => v = (.pointer (some ⟨gk, ok + i, none⟩))), (fun v _ => v = (.string ⟨ki.toArray⟩)), (fun v _ => v = (.string (⟨ki.toArray⟩ ++ ⟨#[58, 32]⟩))), (fun v _ => v = (.agg #[.int .u8 (k' : Int), .int .i64 n', .string ⟨s'.toArray⟩, .slice ak' lk' ck2', .slice av' lv' cv2'])), (fun v _ => v = (.string ⟨rv.toArray⟩)), (fun v _ => v = (.string (⟨ki.toArray⟩ ++ ⟨#[58, 32]⟩ ++ ⟨rv.toArray⟩))), (fun v _ => v = (.string (⟨acc1.toArray⟩ ++ (⟨ki.toArray⟩ ++ ⟨#[58, 32]⟩ ++ ⟨rv.toArray⟩))))] rfl ⟨?_, ?_, ?_, ?_, ?_, ?_, ?_, ?_, ?_, ?_, ?_, trivial⟩ _ rfl ⟨?_, ?_, ?_, ?_, ?_, ?_, ?_, ?_, ?_, ?_, ?_, trivial⟩ ?_
    iterate 11 exact Stable.is _ _
    ·intro x wx ox hN TT HTT; unfold StepTo; simp only [putAll, Act.put, zA, zB, zC]; clear hN
     go_wp2_with fail
     exact ⟨rfl, _, rfl, HTT.out _ _ rfl oR⟩
    ·intro x wx ox hN TT HTT; unfold StepTo; simp only [putAll, Act.put, zA, zB, zC]; clear hN
     go_wp2_with fail
     exact ⟨rfl, _, rfl, HTT.out _ _ rfl oR⟩
    ·intro x wx ox hN TT HTT; unfold StepTo; simp only [putAll, Act.put, zA, zB, zC, eI (hN.1 rfl)]; clear hN; have c3 := keepc ((HO4.out.drew).trans ox) HC.out.2.2.2.1
     go_wp2_with fail
     exact ⟨rfl, _, rfl, HTT.out _ _ rfl oR⟩
    ·intro x wx ox hN TT HTT; unfold StepTo; simp only [putAll, Act.put, zA, zB, zC]; clear hN
     go_wp2_with fail
     exact ⟨rfl, _, rfl, HTT.out _ _ rfl oR⟩
    ·intro x wx ox hN TT HTT; unfold StepTo; simp only [putAll, Act.put, zA, zB, zC, eI (hN.1 rfl), eI (hN.2.1 rfl)]; clear hN
     go_wp2_with fail
     exact ⟨rfl, _, rfl, HTT.out _ _ rfl oR⟩
    ·intro x wx ox hN TT HTT; unfold StepTo; simp only [putAll, Act.put, zA, zB, zC, eI (hN.1 rfl)]; clear hN; have e5 := keepc (((Only.refl (fun _ => False) w5).drew).trans ox) E5.out
     go_wp2_with fail
     exact ⟨rfl, _, rfl, HTT.out _ _ rfl oR⟩
    ·intro x wx ox hN TT HTT; unfold StepTo; simp only [putAll, Act.put, zA, zB, zC, eI (hN.1 rfl)]; clear hN
     go_wp2_with fail
     exact ⟨rfl, _, rfl, HTT.out _ _ rfl oR⟩
    ·intro x wx ox hN TT HTT; unfold StepTo; simp only [putAll, Act.put, zA, zB, zC]; clear hN; obtain ⟨x0, x1, x2, x3, x4, -⟩ := boxN5 (((((Only.refl (fun _ => False) w5).drew).trans ox).block X (gE HX4.out).1 (fun h => h)).trans HX4.out)
     go_wp2_with fail
     exact ⟨rfl, _, rfl, HTT.out _ _ rfl oR⟩
    ·intro x wx ox hN TT HTT; unfold StepTo; simp only [putAll, Act.put, zA, zB, zC, eI (hN.1 rfl)]; clear hN; have J := hid (HREC.out wx ((HO4.out.drew).trans ox))
     go_wp2_with fail
     refine J.out.mono ?_
     rintro e w6 ⟨rfl, o6⟩; have O6 := hid o6; clear o6
     go_wp2_with fail
     exact ⟨rfl, _, rfl, HTT.out _ _ rfl (O6.out)⟩
    ·intro x wx ox hN TT HTT; unfold StepTo; simp only [putAll, Act.put, zA, zB, zC, eI (hN.1 rfl), eI (hN.2.1 rfl)]; clear hN
     go_wp2_with fail
     exact ⟨rfl, _, rfl, HTT.out _ _ rfl oR⟩
    ·intro x wx ox hN TT HTT; unfold StepTo; simp only [putAll, Act.put, zA, zB, zC, eI (hN.1 rfl), eI (hN.2.1 rfl)]; clear hN
     go_wp2_with fail
     exact ⟨rfl, _, rfl, HTT.out _ _ rfl oR⟩
    intro xz wxz oxz hN; simp only [putAll, Act.put, zA, zB, zC, eI hN.1, eI hN.2.1, eI hN.2.2.1, eI hN.2.2.2.1, eI hN.2.2.2.2.1, eI hN.2.2.2.2.2.1, eI hN.2.2.2.2.2.2.1, eI hN.2.2.2.2.2.2.2.1, eI hN.2.2.2.2.2.2.2.2.1, eI hN.2.2.2.2.2.2.2.2.2.1, eI hN.2.2.2.2.2.2.2.2.2.2.1]; clear hN; have HO9 := hid ((HO4.out.drew).trans oxz); clear oxz HO4 HX4 E5
    go_wp2_with fail
    go_roundw
    case rel => exact ⟨i + 1, by simp, by omega, by rw [HA'.out, HNX.out]; simp only [← cat_list], HO9⟩
    case measure => simp [intOf]; omega
   ·have t1 : decide ((i : Int) < (L : Int)) = false := decide_eq_false (by omega); have hiL : i = L := by omega
    subst hiL; have htk : (itemsV 6 ks vs).take i = itemsV 6 ks vs := by rw [← HL.out, ← HIL.out]; exact List.take_length
    rw [htk] at hal ⊢; obtain ⟨acc, hacc⟩ := eX (ren (sepI gapI (itemsV 6 ks vs))); have HRF := hid (HRR.out.trans (by rw [hacc])); rw [hacc] at hal ⊢; have HOF := HO; clear htk hacc
    go_wp2_with fail
    go_ret
    rw [HRF.out, ← cat_list, ← cat_list]; exact ⟨rfl, HOB.out.trans HOF.out⟩
 | 2, _ =>
  have hr : R = quoS s := by rw [← HR.out, if_neg (by omega), if_pos (.inl rfl)]; exact ren_one _ _ _ _
  have HRR := hid hr; clear hr; have J := hid (pquote_any ⟨s.toArray⟩ (by have := HSQ0.out (.inl rfl); simpa [ByteArray.size] using this) wb)
  go_wp2_with fail
  refine J.out.mono ?_
  rintro e w2 ⟨rfl, o2⟩; have HO2 := hid (HOB.out.trans o2); clear o2 c0 c1 c2 c3 c4
  go_wp2_with fail
  go_ret
  rw [HRR.out]; exact ⟨rfl, HO2.out⟩
 | 8, _ =>
  have hr : R = quoS s := by rw [← HR.out, if_neg (by omega), if_pos (.inr rfl)]; exact ren_one _ _ _ _
  have HRR := hid hr; clear hr; have J := hid (pquote_any ⟨s.toArray⟩ (by have := HSQ0.out (.inr rfl); simpa [ByteArray.size] using this) wb)
  go_wp2_with fail
  refine J.out.mono ?_
  rintro e w2 ⟨rfl, o2⟩; have HO2 := hid (HOB.out.trans o2); clear o2 c0 c1 c2 c3 c4
  go_wp2_with fail
  go_ret
  rw [HRR.out]; exact ⟨rfl, HO2.out⟩
end Go.Proofs.YtnkpoddbbdmipaaGreatDoor
