/- . -/
import Derived.Test.YtnkpoddbbdmipaaGreatDoorTApSsg
import Derived.Test.YtnkpoddbbdmipaaGreatDoorTApTyt
import Derived.Test.YtnkpoddbbdmipaaGreatDoorTApSmd
import Derived.Deep.QuietTactic
import Derived.BigQuiet
namespace Go.Proofs.YtnkpoddbbdmipaaGreatDoor
open Go Go.RowKit
open Go.Lib (hid)
set_option linter.unusedVariables false
set_option linter.unusedSimpArgs false
theorem vd_ext {a b : VD} (h1 : a.name = b.name) (h2 : a.has = b.has) (h3 : a.v = b.v) (h4 : a.t = b.t) : a = b := by
 cases a; cases b
 simp only at h1 h2 h3 h4; subst h1; subst h2; subst h3; subst h4; rfl
theorem fr_ext {a b : FR} (h1 : a.name = b.name) (h2 : a.on_ = b.on_) (h3 : a.sub = b.sub) : a = b := by
 cases a; cases b
 simp only at h1 h2 h3; subst h1; subst h2; subst h3; rfl
theorem sameT_of (t u : TR) (R : Bool) (hR : R = true ↔ t = u) (G G' : Nat → Prop) (w : World) (cs ds : List Value) (h : CellsAt w G (trC t) cs) (h' : CellsAt w G' (trC u) ds) :
  Calls Tryz.prog 24 #[.agg cs.toArray, .agg ds.toArray] w (fun e w' => e = .returned (.bool R) ∧ Only (fun _ => False) w w') := by
 have e : trSame t u = R := by
  cases hq : trSame t u with
  | true => exact (hR.2 ((trSame_iff _ _).1 hq)).symm
  | false =>
   cases R with
   | false => rfl
   | true => rw [(trSame_iff _ _).2 (hR.1 rfl)] at hq; cases hq
 rw [← e]; exact sameT_any t u G G' w cs ds h h'
set_option maxRecDepth 100000 in
set_option maxHeartbeats 16000000 in
theorem sameD_any (d e : DC) (R : Bool) (hR : R = true ↔ d = e) (G G' : Nat → Prop) (w : World) (x y x' y' : Value) (h : CellsAt w G (docC d) [x, y]) (h' : CellsAt w G' (docC e) [x', y']) :
  Calls Tryz.prog 15 #[.agg #[x, y], .agg #[x', y']] w (fun e w' => e = .returned (.bool R) ∧ Only (fun _ => False) w w') := by
 obtain ⟨h, hf⟩ := doc_cells h; obtain ⟨h', hf'⟩ := doc_cells h'; obtain ⟨a, c, rfl, k1, k2, k3⟩ := rows_at h; obtain ⟨a', c', rfl, k1', k2', k3'⟩ := rows_at h'; obtain ⟨p, r, rfl, l1, l2, l3⟩ := rows_at hf; obtain ⟨p', r', rfl, l1', l2', l3'⟩ := rows_at hf'; obtain ⟨L, hL⟩ := eX (d.ops.length); obtain ⟨M, hM⟩ := eX (d.frags.length); obtain ⟨L', hL'⟩ : ∃ L, e.ops.length = L := ⟨_, rfl⟩; obtain ⟨M', hM'⟩ : ∃ L, e.frags.length = L := ⟨_, rfl⟩; rw [hL] at k1 ⊢; rw [hL'] at k1' ⊢; rw [hM] at l1 ⊢; rw [hM'] at l1' ⊢; obtain ⟨wz, hwz⟩ := eX ((w.alloc (.cells #[.slice a L c, .slice p M r] 26)).alloc (.cells #[.slice a' L' c', .slice p' M' r'] 26)); have oz : Only (fun _ => False) w wz := by rw [← hwz]; exact ((Only.refl _ w).alloc _).alloc _
 obtain ⟨zA, hzA⟩ := eX (w.heap.size); obtain ⟨zB, hzB⟩ := eX (zA + 1); have hx1 : wz.heap[zA]? = some (.cells #[.slice a L c, .slice p M r] 26 (0, 0)) := by rw [← hwz, ← hzA]; exact heap_old (heap_new w _) _
 have hx2 : wz.heap[zB]? = some (.cells #[.slice a' L' c', .slice p' M' r'] 26 (0, 0)) := by
  rw [← hwz, ← hzB, ← hzA]; have := heap_new (w.alloc (.cells #[.slice a L c, .slice p M r] 26)) (.cells #[.slice a' L' c', .slice p' M' r'] 26); rw [World.size_alloc] at this; exact this
 obtain ⟨z0, z1, -⟩ := boxN2 hx1; obtain ⟨y0, y1, -⟩ := boxN2 hx2; have HL := hid hL; have HM := hid hM; have HK := hid k3; have HK' := hid k3'; have HF := hid l3; have HF' := hid l3'; have HOZ := hid oz; have HWZ := hid hwz; have HZA := hid hzA; have HZB := hid hzB; have HR := hid (show R = true ↔ (d.ops = e.ops ∧ d.frags = e.frags) from hR.trans ⟨fun h => by rw [h]; exact ⟨rfl, rfl⟩, fun ⟨h1, h2⟩ => by cases d; cases e; simp only at h1 h2; rw [h1, h2]⟩); have HL2 := hid hL'; have HM2 := hid hM'; have HZ := hid (And.intro z0 (And.intro z1 (And.intro y0 y1))); clear hL hM hL' hM' hR k3 k3' l3 l3' h h' hf hf' oz hwz hzA hzB hx1 hx2
 go_enter Tryz.func15, Tryz.ntmps15
 go_upto_region 1 with (fail)
 rw [HWZ.out, HZA.out, HZB.out]
 by_cases g1 : L = L'
 rotate_left
 ·have hRf : R = false := by
   cases R with
   | false => rfl
   | true => exact absurd (HR.out.1 rfl) (fun h => g1 (by rw [← HL.out, ← HL2.out, h.1]))
  subst hRf; have z1a : ((L : Int) == (L' : Int)) = false := by simp; omega
  have z1b : ((L : Int) != (L' : Int)) = true := by simp; omega
  go_wp2_with fail
  clear z0 z1 y0 y1
  go_ret
  exact ⟨rfl, HOZ.out⟩
 subst g1
 by_cases g2 : M = M'
 rotate_left
 ·have hRf : R = false := by
   cases R with
   | false => rfl
   | true => exact absurd (HR.out.1 rfl) (fun h => g2 (by rw [← HM.out, ← HM2.out, h.2]))
  subst hRf; have z2a : ((M : Int) == (M' : Int)) = false := by simp; omega
  have z2b : ((M : Int) != (M' : Int)) = true := by simp; omega
  go_wp2_with fail
  clear z0 z1 y0 y1
  go_ret
  exact ⟨rfl, HOZ.out⟩
 subst g2
 go_wp2_with fail
 clear z0 z1 y0 y1
 go_loopw [5] (fun v wr => ∃ i : Nat, v = .int .i64 (i : Int) ∧ i ≤ L ∧ Hid (Only (fun _ => False) wz wr ∧ d.ops.take i = e.ops.take i)) (fun v _ => L - (intOf v).toNat)
 case atStart => exact ⟨0, by simp, by omega, hid ⟨oR, rfl⟩⟩
 case round =>
  obtain ⟨i, rfl, hi, HOT⟩ := hrel; have HO := hid HOT.out.1; have HTK := hid HOT.out.2; clear HOT; obtain ⟨z0, z1, y0, y1⟩ := HZ.out; have z0 := keepc HO.out z0; have z1 := keepc HO.out z1; have y0 := keepc HO.out y0; have y1 := keepc HO.out y1
  by_cases hlt : i < L
  ·have t3 : decide ((i : Int) < (L : Int)) = true := by simpa using hlt
   have hi0 : (0 : Int) ≤ (i : Int) := by omega
   have hi1 : (i : Int) < (L : Int) := by omega
   have hil : i < d.ops.length := by rw [HL.out]; exact hlt
   have hjl0 : i < e.ops.length := by rw [HL2.out]; exact hlt
   obtain ⟨R1, hR1⟩ := sm_ex d.ops[i] e.ops[i]; have HNX := hid (fun e : R1 = true => take_snoc HTK.out hil hjl0 (hR1.1 e))
   have HNR := hid (show R1 = false → R = false from fun e => by
    have h1 := get_ne hil hjl0 (fun h => by have := hR1.2 h; rw [e] at this; cases this)
    cases R with
    | false => rfl
    | true => exact absurd (HR.out.1 rfl).1 h1)
   obtain ⟨g, o, xs, rfl, -, q1, q2⟩ := HK.out i hil; obtain ⟨g', o', xs', rfl, -, q1', q2'⟩ := HK'.out i hjl0; obtain ⟨mu, nm, vds, sub, hop⟩ : ∃ mu nm vds sub, d.ops[i] = ⟨mu, nm, vds, sub⟩ := ⟨_, _, _, _, rfl⟩; obtain ⟨mu', nm', vds', sub', hop'⟩ : ∃ mu nm vds sub, e.ops[i] = ⟨mu, nm, vds, sub⟩ := ⟨_, _, _, _, rfl⟩; obtain ⟨RS, hRS⟩ := sm_ex sub sub'
   have HALL := hid (show R1 = true ↔ (mu = mu' ∧ nm = nm' ∧ vds = vds' ∧ RS = true) by
    rw [hR1, hRS, hop, hop']
    exact ⟨fun e => by injection e with e1 e2 e3 e4; exact ⟨e1, e2, e3, e4⟩, fun ⟨e1, e2, e3, e4⟩ => by rw [e1, e2, e3, e4]⟩)
   rw [hop] at q2; rw [hop'] at q2'; obtain ⟨vv, sv, rfl, hv, hs⟩ := op_cells q2; obtain ⟨vv', sv', rfl, hv', hs'⟩ := op_cells q2'; have hsa := fun (wx : World) (ox : Only (fun _ => False) w wx) => sameSet_any sub sub' RS hRS G G' wx _ _ (CellAt.only ox (fun _ _ h => h) _ _ hs) (CellAt.only ox (fun _ _ h => h) _ _ hs')
   obtain ⟨av, cv, rfl, n1, n2, n3⟩ := rows_at hv; obtain ⟨av', cv', rfl, n1', n2', n3'⟩ := rows_at hv'; obtain ⟨as_, cs_, rfl, -, -, -⟩ := rows_at hs; obtain ⟨as', cs', rfl, -, -, -⟩ := rows_at hs'; simp only at n1 n1' n3 n3' hsa q1 q1'; obtain ⟨LV, hLV⟩ := eX (vds.length); obtain ⟨LS, hLS⟩ := eX (sub.length); obtain ⟨LV', hLV'⟩ : ∃ L, vds'.length = L := ⟨_, rfl⟩; obtain ⟨LS', hLS'⟩ : ∃ L, sub'.length = L := ⟨_, rfl⟩; rw [hLV] at q1 n1; rw [hLV'] at q1' n1'; rw [hLS] at hsa q1; rw [hLS'] at hsa q1'; have HOW := hid (HOZ.out.trans HO.out); obtain ⟨e0, e1, e2, e3⟩ := cells4_of q1; obtain ⟨f0, f1, f2, f3⟩ := cells4_of q1'; have e0 := keepc HOW.out e0; have e1 := keepc HOW.out e1; have e2 := keepc HOW.out e2; have e3 := keepc HOW.out e3; have f0 := keepc HOW.out f0; have f1 := keepc HOW.out f1; have f2 := keepc HOW.out f2; have f3 := keepc HOW.out f3; have oA := (Only.refl (fun _ => False) wr).alloc (.cells #[.bool mu, .string ⟨nm.toArray⟩, .slice av LV cv, .slice as_ LS cs_] 56); have f0 := keepc oA f0; have f1 := keepc oA f1; have f2 := keepc oA f2; have f3 := keepc oA f3; have g0 := keepc oA y0; obtain ⟨wb, hwb⟩ := eX ((wr.alloc (.cells #[.bool mu, .string ⟨nm.toArray⟩, .slice av LV cv, .slice as_ LS cs_] 56)).alloc (.cells #[.bool mu', .string ⟨nm'.toArray⟩, .slice av' LV' cv', .slice as' LS' cs'] 56)); obtain ⟨wa, hwa⟩ := eX (wr.alloc (.cells #[.bool mu, .string ⟨nm.toArray⟩, .slice av LV cv, .slice as_ LS cs_] 56)); have ob : Only (fun _ => False) wr wb := by rw [← hwb]; exact ((Only.refl _ wr).alloc _).alloc _
   obtain ⟨bA, hbA⟩ := eX (wr.heap.size); obtain ⟨bB, hbB⟩ := eX (bA + 1); have hx1 : wb.heap[bA]? = some (.cells #[.bool mu, .string ⟨nm.toArray⟩, .slice av LV cv, .slice as_ LS cs_] 56 (0, 0)) := by rw [← hwb, ← hbA]; exact heap_old (heap_new wr _) _
   have hx2 : wb.heap[bB]? = some (.cells #[.bool mu', .string ⟨nm'.toArray⟩, .slice av' LV' cv', .slice as' LS' cs'] 56 (0, 0)) := by
    rw [← hwb, ← hbB, ← hbA]; have := heap_new (wr.alloc (.cells #[.bool mu, .string ⟨nm.toArray⟩, .slice av LV cv, .slice as_ LS cs_] 56)) (.cells #[.bool mu', .string ⟨nm'.toArray⟩, .slice av' LV' cv', .slice as' LS' cs'] 56); rw [World.size_alloc] at this; exact this
   have hsa1 : wa.heap.size = bB := by rw [← hwa, World.size_alloc, hbA, hbB]
   rw [hwa] at hwb f0 f1 f2 f3 g0; obtain ⟨c0, c1, c2, c3, -⟩ := boxN4 hx1; obtain ⟨d0, d1, d2, d3, -⟩ := boxN4 hx2; have HOB := hid (HOW.out.trans ob); have HZB2 := hid (HO.out.trans ob); have HSA := hid (fun (wx : World) (ox : Only (fun _ => False) wb wx) => hsa wx (HOB.out.trans ox)); have HND := hid n3; have HND' := hid n3'; have HWA := hid hwa; have HWB := hid hwb; have HBA := hid hbA; have HSA1 := hid hsa1; have HLV := hid hLV; have HLV2 := hid hLV'; have HC := hid (And.intro (c0) (And.intro (c1) (And.intro (c2) (And.intro (c3) (And.intro (d0) (And.intro (d1) (And.intro (d2) (d3)))))))); clear hsa n3 n3' hwa hwb hbA hbB hsa1 hLV hLS hLV' hLS' hRS hR1 hil hjl0 hx1 hx2 ob hs hs' hv hv' q1 q1' q2 q2' hop hop' oA c0 c1 c2 c3 d0 d1 d2 d3
   go_upto_region 7 with (fail)
   rw [HWA.out, HBA.out]; clear e0 e1 e2 e3 z0 z1 y0 y1
   go_upto_region 8 with (fail)
   rw [HWB.out, HSA1.out]; clear f0 f1 f2 f3 g0; obtain ⟨c0, c1, c2, c3, d0, d1, d2, d3⟩ := HC.out
   by_cases g1 : mu = mu'
   rotate_left
   ·cases mu <;> cases mu'
    ·exact absurd rfl g1
    ·have hRf : R = false := HNR.out (by
      cases R1 with
      | false => rfl
      | true => exact absurd (HALL.out.1 rfl) (fun h => by cases h.1))
     subst hRf
     go_wp2_with fail
     clear c0 c1 c2 c3 d0 d1 d2 d3
     go_ret
     exact ⟨rfl, HOB.out⟩
    ·have hRf : R = false := HNR.out (by
      cases R1 with
      | false => rfl
      | true => exact absurd (HALL.out.1 rfl) (fun h => by cases h.1))
     subst hRf
     go_wp2_with fail
     clear c0 c1 c2 c3 d0 d1 d2 d3
     go_ret
     exact ⟨rfl, HOB.out⟩
    ·exact absurd rfl g1
   subst g1
   by_cases g2 : nm = nm'
   rotate_left
   ·have hRf : R = false := HNR.out (by
     cases R1 with
     | false => rfl
     | true => exact absurd (HALL.out.1 rfl) (fun h => g2 h.2.1))
    subst hRf; have z2a : (nm == nm') = false := by simpa using g2
    have z2b : (nm != nm') = true := by simpa using g2
    go_wp2_with fail
    clear c0 c1 c2 c3 d0 d1 d2 d3
    go_ret
    exact ⟨rfl, HOB.out⟩
   subst g2
   by_cases g3 : LV = LV'
   rotate_left
   ·have hRf : R = false := HNR.out (by
     cases R1 with
     | false => rfl
     | true => exact absurd (HALL.out.1 rfl) (fun h => g3 (by have h := h.2.2.1; rw [← HLV.out, ← HLV2.out, h])))
    subst hRf; have z3a : ((LV : Int) == (LV' : Int)) = false := by simp; omega
    have z3b : ((LV : Int) != (LV' : Int)) = true := by simp; omega
    go_wp2_with fail
    clear c0 c1 c2 c3 d0 d1 d2 d3
    go_ret
    exact ⟨rfl, HOB.out⟩
   subst g3
   go_wp2_with fail
   refine (HSA.out wb oR).mono ?_
   rintro e w6 ⟨rfl, o6⟩; have HO6 := hid o6; clear o6
   cases RS with
   | false =>
    have hRf : R = false := HNR.out (by
     cases R1 with
     | false => rfl
     | true => exact absurd (HALL.out.1 rfl) (fun h => by cases h.2.2.2))
    subst hRf; clear c0 c1 c2 c3 d0 d1 d2 d3
    go_wp2_with fail
    go_ret
    exact ⟨rfl, HOB.out.trans HO6.out⟩
   | true =>
   have HNS := hid (show vds = vds' → d.ops.take (i + 1) = e.ops.take (i + 1) from fun e => HNX.out (HALL.out.2 (by simp [e])))
   have HNN := hid (show vds ≠ vds' → R = false from fun e => HNR.out (by
    cases R1 with
    | false => rfl
    | true => exact absurd (HALL.out.1 rfl).2.2.1 e))
   clear HNX HNR HALL HTK; clear c0 c1 c2 c3 d0 d1 d2 d3
   go_wp2_with fail
   go_loopw [8] (fun v w8 => ∃ j : Nat, v = .int .i64 (j : Int) ∧ j ≤ LV ∧ Hid (Only (fun _ => False) wb w8 ∧ vds.take j = vds'.take j)) (fun v _ => LV - (intOf v).toNat)
   case atStart => exact ⟨0, by simp, by omega, hid ⟨HO6.out, rfl⟩⟩
   case round =>
    clear HO6; obtain ⟨j, rfl, hj, HPT⟩ := hrel; have HP := hid HPT.out.1; have HTJ := hid HPT.out.2; clear HPT; obtain ⟨c0, c1, c2, c3, d0, d1, d2, d3⟩ := HC.out; have c2 := keepc HP.out c2; have d2 := keepc HP.out d2; clear c0 c1 c3 d0 d1 d3
    by_cases hltj : j < LV
    ·as_aux_lemma =>
     have t4 : decide ((j : Int) < (LV : Int)) = true := by simpa using hltj
     have hj0 : (0 : Int) ≤ (j : Int) := by omega
     have hj1 : (j : Int) < (LV : Int) := by omega
     have hjl : j < vds.length := by rw [HLV.out]; exact hltj
     have hjm : j < vds'.length := by rw [HLV2.out]; exact hltj
     obtain ⟨R1, hR1⟩ := sm_ex vds[j] vds'[j]; obtain ⟨RV, hRV⟩ := sm_ex vds[j].v vds'[j].v; obtain ⟨RT, hRT⟩ := sm_ex vds[j].t vds'[j].t; have HNX := hid (fun e : R1 = true => take_snoc HTJ.out hjl hjm (hR1.1 e)); have HNR := hid (show R1 = false → R = false from fun e => HNN.out (get_ne hjl hjm (fun h => by have := hR1.2 h; rw [e] at this; cases this))); have hall : R1 = true ↔ (vds[j].name = vds'[j].name ∧ vds[j].has = vds'[j].has ∧ RV = true ∧ RT = true) := by
      rw [hR1, hRV, hRT]; exact ⟨fun e => by rw [e]; exact ⟨rfl, rfl, rfl, rfl⟩, fun ⟨e1, e2, e3, e4⟩ => vd_ext e1 e2 e3 e4⟩
     obtain ⟨gd, od, ys, rfl, -, p1, p2⟩ := HND.out j hjl; obtain ⟨gd', od', ys', rfl, -, p1', p2'⟩ := HND'.out j hjm; obtain ⟨ts, us, rfl, ht, hu⟩ := vd_cells p2; obtain ⟨ts', us', rfl, ht', hu'⟩ := vd_cells p2'; have hrec := fun (wx : World) (ox : Only (fun _ => False) w wx) => sameV_any _ _ RV hRV (CellsAt.only ox (fun _ _ h => h) _ _ hu) (CellsAt.only ox (fun _ _ h => h) _ _ hu')
     have hrect := fun (wx : World) (ox : Only (fun _ => False) w wx) => sameT_of _ _ RT hRT G G' wx _ _ (CellsAt.only ox (fun _ _ h => h) _ _ ht) (CellsAt.only ox (fun _ _ h => h) _ _ ht')
     obtain ⟨s1, a1, m1, c1, b1, rfl⟩ := trC_form2 ht; obtain ⟨s2, a2, m2, c2', b2, rfl⟩ := trC_form2 ht'; obtain ⟨vk, vn, vs, va, vl, vc, va2, vl2, vc2, rfl⟩ := valC_form2 hu; obtain ⟨uk, un, us, ua, ul, uc, ua2, ul2, uc2, rfl⟩ := valC_form2 hu'; obtain ⟨e0, e1, e2, e3, e4, e5, e6, e7, e8, e9⟩ := cells10_of p1; obtain ⟨f0, f1, f2, f3, f4, f5, f6, f7, f8, f9⟩ := cells10_of p1'; clear hR1 hRV hRT
     generalize vds[j].name = dn at *
     generalize vds[j].has = dh at *
     generalize vds'[j].name = dn' at *
     generalize vds'[j].has = dh' at *
     have HALL := hid hall; clear hall
     by_cases hnm : dn = dn' ∧ dh = dh'
     rotate_left
     ·have e0 := keepc (HOB.out.trans HP.out) e0; have f0 := keepc (HOB.out.trans HP.out) f0; have e4 := keepc (HOB.out.trans HP.out) e4; have f4 := keepc (HOB.out.trans HP.out) f4
      have hRf : R = false := HNR.out (by
       cases R1 with
       | false => rfl
       | true => exact absurd (HALL.out.1 rfl) (fun h => hnm ⟨h.1, h.2.1⟩))
      subst hRf; clear hrec hrect p1 p1' p2 p2' ht ht' hu hu' e1 e2 e3 e5 e6 e7 e8 e9 f1 f2 f3 f5 f6 f7 f8 f9 HNX HNR HTJ hjl hjm
      go_upto_region 13 with (fail)
      by_cases g1 : dn = dn'
      ·subst g1
       cases dh <;> cases dh'
       ·exact absurd ⟨rfl, rfl⟩ hnm
       ·clear hnm
        go_quiet (fail)
        clear e0 f0 e4 f4 c2 d2
        go_wp2_with fail
        go_ret
        exact ⟨rfl, HOB.out.trans (HP.out.trans ((Only.refl _ wr).drewN nq))⟩
       ·clear hnm
        go_quiet (fail)
        clear e0 f0 e4 f4 c2 d2
        go_wp2_with fail
        go_ret
        exact ⟨rfl, HOB.out.trans (HP.out.trans ((Only.refl _ wr).drewN nq))⟩
       ·exact absurd ⟨rfl, rfl⟩ hnm
      ·clear hnm; have z1a : (dn == dn') = false := by simpa using g1
       have z1b : (dn != dn') = true := by simpa using g1
       go_quiet (fail)
       clear e0 f0 e4 f4 c2 d2
       go_wp2_with fail
       go_ret
       exact ⟨rfl, HOB.out.trans (HP.out.trans ((Only.refl _ wr).drewN nq))⟩
     obtain ⟨rfl, rfl⟩ := hnm; have oww : Only (fun _ => False) w wr := HOB.out.trans HP.out; have HX := hid (fun (wx : World) (ox : Only (fun _ => False) wr.drew wx) => have o := (Only.refl _ wr).drew.trans ox; have ow := oww.trans o; And.intro (keepc o c2) (And.intro (keepc o d2) (And.intro (keepc ow e0) (And.intro (keepc ow e1) (And.intro (keepc ow e2) (And.intro (keepc ow e3) (And.intro (keepc ow e4) (And.intro (keepc ow e5) (And.intro (keepc ow e6) (And.intro (keepc ow e7) (And.intro (keepc ow e8) (And.intro (keepc ow e9) (And.intro (keepc ow f0) (And.intro (keepc ow f1) (And.intro (keepc ow f2) (And.intro (keepc ow f3) (And.intro (keepc ow f4) (And.intro (keepc ow f5) (And.intro (keepc ow f6) (And.intro (keepc ow f7) (And.intro (keepc ow f8) (keepc ow f9)))))))))))))))))))))); have HREC := hid (fun (wx : World) (ox : Only (fun _ => False) wr.drew wx) => hrec wx (oww.trans ((Only.refl _ wr).drew.trans ox))); have HRECT := hid (fun (wx : World) (ox : Only (fun _ => False) wr.drew wx) => hrect wx (oww.trans ((Only.refl _ wr).drew.trans ox))); clear hrec hrect hjl hjm p1 p1' p2 p2' ht ht' hu hu' e0 e1 e2 e3 e4 e5 e6 e7 e8 e9 f0 f1 f2 f3 f4 f5 f6 f7 f8 f9 oww
     go_upto_region 13 with (fail)
     clear c2 d2
     cases RV with
     | false =>
      as_aux_lemma =>
      refine wp_region_steps 59 (by kernel_rfl) rfl (by kernel_rfl) [some 79, some 80, some 81, some 82, some 83, some 84, some 85, some 86, some 87, some 88, some 89, some 90, some 91, some 92, some 93, some 94, some 95, some 96, some 97, some 98, some 99, some 100, some 101, some 102, some 103, some 104, some 105, some 106, some 107, some 108, some 109, some 110, some 111, some 112, some 113, some 114, some 115, some 116, some 117, some 118, some 119, some 120, some 121, some 122, some 123, some 124, some 125, some 126, some 127, some 128, some 129, some 130, some 131, some 132, some 133, some 134, some 135, some 136, some 137] rfl rfl (fun _ => False) [(fun v _ => v = (.pointer (some ⟨bA, 2, none⟩))), (fun v _ => v = (.slice (some ⟨gd, od, none⟩) LV cv)), (fun v _ => v = (.int .i64 (j : Int))), (fun v _ => v = (.pointer (some ⟨gd, od + j * 10, none⟩))), (fun v _ => v = (.pointer (some ⟨gd, od + j * 10, none⟩))), (fun v _ => v = (.string ⟨dn.toArray⟩)), (fun v _ => v = (.pointer (some ⟨bB, 2, none⟩))), (fun v _ => v = (.slice (some ⟨gd', od', none⟩) LV cv')), (fun v _ => v = (.int .i64 (j : Int))), (fun v _ => v = (.pointer (some ⟨gd', od' + j * 10, none⟩))), (fun v _ => v = (.pointer (some ⟨gd', od' + j * 10, none⟩))), (fun v _ => v = (.string ⟨dn.toArray⟩)), (fun v _ => v = (.bool false)), (fun v _ => v = (.bool false)), (fun v _ => v = (.pointer (some ⟨bA, 2, none⟩))), (fun v _ => v = (.slice (some ⟨gd, od, none⟩) LV cv)), (fun v _ => v = (.int .i64 (j : Int))), (fun v _ => v = (.pointer (some ⟨gd, od + j * 10, none⟩))), (fun v _ => v = (.pointer (some ⟨gd, od + j * 10 + 4, none⟩))), (fun v _ => v = (.bool dh)), (fun v _ => v = (.pointer (some ⟨bB, 2, none⟩))), (fun v _ => v = (.slice (some ⟨gd', od', none⟩) LV cv')), (fun v _ => v = (.int .i64 (j : Int))), (fun v _ => v = (.pointer (some ⟨gd', od' + j * 10, none⟩))), (fun v _ => v = (.pointer (some ⟨gd', od' + j * 10 + 4, none⟩))), (fun v _ => v = (.bool dh)), (fun v _ => v = (.bool false)), (fun v _ => v = (.bool false)), (fun v _ => v = (.bool false)), (fun v _ => v = (.pointer (some ⟨bA, 2, none⟩))), (fun v _ => v = (.slice (some ⟨gd, od, none⟩) LV cv)), (fun v _ => v = (.int .i64 (j : Int))), (fun v _ => v = (.pointer (some ⟨gd, od + j * 10, none⟩))), (fun v _ => v = (.pointer (some ⟨gd, od + j * 10 + 5, none⟩))), (fun v _ => v = (.agg #[.int .u8 (vk : Int), .int .i64 vn, .string ⟨vs.toArray⟩, .slice va vl vc, .slice va2 vl2 vc2])), (fun v _ => v = (.pointer (some ⟨bB, 2, none⟩))), (fun v _ => v = (.slice (some ⟨gd', od', none⟩) LV cv')), (fun v _ => v = (.int .i64 (j : Int))), (fun v _ => v = (.pointer (some ⟨gd', od' + j * 10, none⟩))), (fun v _ => v = (.pointer (some ⟨gd', od' + j * 10 + 5, none⟩))), (fun v _ => v = (.agg #[.int .u8 (uk : Int), .int .i64 un, .string ⟨us.toArray⟩, .slice ua ul uc, .slice ua2 ul2 uc2])), (fun v _ => v = (.bool false)), (fun v _ => v = (.bool true)), (fun v _ => v = (.bool true)), (fun v _ => v = (.bool true)), (fun v _ => v = undef), (fun v _ => v = undef), (fun v _ => v = undef), (fun v _ => v = undef), (fun v _ => v = undef), (fun v _ => v = undef), (fun v _ => v = undef), (fun v _ => v = undef), (fun v _ => v = undef), (fun v _ => v = undef), (fun v _ => v = undef), (fun v _ => v = undef), (fun v _ => v = undef), (fun v _ => v = undef)] rfl ⟨?_, ?_, ?_, ?_, ?_, ?_, ?_, ?_, ?_, ?_, ?_, ?_, ?_, ?_, ?_, ?_, ?_, ?_, ?_, ?_, ?_, ?_, ?_, ?_, ?_, ?_, ?_, ?_, ?_, ?_, ?_, ?_, ?_, ?_, ?_, ?_, ?_, ?_, ?_, ?_, ?_, ?_, ?_, ?_, ?_, ?_, ?_, ?_, ?_, ?_, ?_, ?_, ?_, ?_, ?_, ?_, ?_, ?_, ?_, trivial⟩ _ rfl ⟨?_, ?_, ?_, ?_, ?_, ?_, ?_, ?_, ?_, ?_, ?_, ?_, ?_, ?_, ?_, ?_, ?_, ?_, ?_, ?_, ?_, ?_, ?_, ?_, ?_, ?_, ?_, ?_, ?_, ?_, ?_, ?_, ?_, ?_, ?_, ?_, ?_, ?_, ?_, ?_, ?_, ?_, ?_, ?_, ?_, ?_, ?_, ?_, ?_, ?_, ?_, ?_, ?_, ?_, ?_, ?_, ?_, ?_, ?_, trivial⟩ ?_
      iterate 59 exact Stable.is _ _
      ·intro x wx ox hN TT HTT; clear hN; unfold StepTo; simp only [putAll, Act.put, List.setIfInBounds_toArray, List.set_cons_succ, List.set_cons_zero]
       go_wp2_with fail
       exact ⟨rfl, _, rfl, HTT.out _ _ rfl oR⟩
      ·intro x wx ox hN TT HTT; have r79 : x 0 = (.pointer (some ⟨bA, 2, none⟩)) := hN.1 rfl; clear hN; unfold StepTo; simp only [putAll, Act.put, List.setIfInBounds_toArray, List.set_cons_succ, List.set_cons_zero, r79]; clear r79; obtain ⟨n1, n2, m0, m1, m2, m3, m4, m5, m6, m7, m8, m9, m10, m11, m12, m13, m14, m15, m16, m17, m18, m19⟩ := HX.out wx ox
       go_wp2_with fail
       exact ⟨rfl, _, rfl, HTT.out _ _ rfl oR⟩
      ·intro x wx ox hN TT HTT; clear hN; unfold StepTo; simp only [putAll, Act.put, List.setIfInBounds_toArray, List.set_cons_succ, List.set_cons_zero]
       go_wp2_with fail
       exact ⟨rfl, _, rfl, HTT.out _ _ rfl oR⟩
      ·intro x wx ox hN TT HTT; have r80 : x 1 = (.slice (some ⟨gd, od, none⟩) LV cv) := hN.1 rfl; have r81 : x 2 = (.int .i64 (j : Int)) := hN.2.1 rfl; clear hN; unfold StepTo; simp only [putAll, Act.put, List.setIfInBounds_toArray, List.set_cons_succ, List.set_cons_zero, r80, r81]; clear r80 r81
       go_wp2_with fail
       exact ⟨rfl, _, rfl, HTT.out _ _ rfl oR⟩
      ·intro x wx ox hN TT HTT; have r82 : x 3 = (.pointer (some ⟨gd, od + j * 10, none⟩)) := hN.1 rfl; clear hN; unfold StepTo; simp only [putAll, Act.put, List.setIfInBounds_toArray, List.set_cons_succ, List.set_cons_zero, r82]; clear r82
       go_wp2_with fail
       exact ⟨rfl, _, rfl, HTT.out _ _ rfl oR⟩
      ·intro x wx ox hN TT HTT; have r83 : x 4 = (.pointer (some ⟨gd, od + j * 10, none⟩)) := hN.1 rfl; clear hN; unfold StepTo; simp only [putAll, Act.put, List.setIfInBounds_toArray, List.set_cons_succ, List.set_cons_zero, r83]; clear r83; obtain ⟨n1, n2, m0, m1, m2, m3, m4, m5, m6, m7, m8, m9, m10, m11, m12, m13, m14, m15, m16, m17, m18, m19⟩ := HX.out wx ox
       go_wp2_with fail
       exact ⟨rfl, _, rfl, HTT.out _ _ rfl oR⟩
      ·intro x wx ox hN TT HTT; clear hN; unfold StepTo; simp only [putAll, Act.put, List.setIfInBounds_toArray, List.set_cons_succ, List.set_cons_zero]
       go_wp2_with fail
       exact ⟨rfl, _, rfl, HTT.out _ _ rfl oR⟩
      ·intro x wx ox hN TT HTT; have r85 : x 6 = (.pointer (some ⟨bB, 2, none⟩)) := hN.1 rfl; clear hN; unfold StepTo; simp only [putAll, Act.put, List.setIfInBounds_toArray, List.set_cons_succ, List.set_cons_zero, r85]; clear r85; obtain ⟨n1, n2, m0, m1, m2, m3, m4, m5, m6, m7, m8, m9, m10, m11, m12, m13, m14, m15, m16, m17, m18, m19⟩ := HX.out wx ox
       go_wp2_with fail
       exact ⟨rfl, _, rfl, HTT.out _ _ rfl oR⟩
      ·intro x wx ox hN TT HTT; clear hN; unfold StepTo; simp only [putAll, Act.put, List.setIfInBounds_toArray, List.set_cons_succ, List.set_cons_zero]
       go_wp2_with fail
       exact ⟨rfl, _, rfl, HTT.out _ _ rfl oR⟩
      ·intro x wx ox hN TT HTT; have r86 : x 7 = (.slice (some ⟨gd', od', none⟩) LV cv') := hN.1 rfl; have r87 : x 8 = (.int .i64 (j : Int)) := hN.2.1 rfl; clear hN; unfold StepTo; simp only [putAll, Act.put, List.setIfInBounds_toArray, List.set_cons_succ, List.set_cons_zero, r86, r87]; clear r86 r87
       go_wp2_with fail
       exact ⟨rfl, _, rfl, HTT.out _ _ rfl oR⟩
      ·intro x wx ox hN TT HTT; have r88 : x 9 = (.pointer (some ⟨gd', od' + j * 10, none⟩)) := hN.1 rfl; clear hN; unfold StepTo; simp only [putAll, Act.put, List.setIfInBounds_toArray, List.set_cons_succ, List.set_cons_zero, r88]; clear r88
       go_wp2_with fail
       exact ⟨rfl, _, rfl, HTT.out _ _ rfl oR⟩
      ·intro x wx ox hN TT HTT; have r89 : x 10 = (.pointer (some ⟨gd', od' + j * 10, none⟩)) := hN.1 rfl; clear hN; unfold StepTo; simp only [putAll, Act.put, List.setIfInBounds_toArray, List.set_cons_succ, List.set_cons_zero, r89]; clear r89; obtain ⟨n1, n2, m0, m1, m2, m3, m4, m5, m6, m7, m8, m9, m10, m11, m12, m13, m14, m15, m16, m17, m18, m19⟩ := HX.out wx ox
       go_wp2_with fail
       exact ⟨rfl, _, rfl, HTT.out _ _ rfl oR⟩
      ·intro x wx ox hN TT HTT; have r84 : x 5 = (.string ⟨dn.toArray⟩) := hN.1 rfl; have r90 : x 11 = (.string ⟨dn.toArray⟩) := hN.2.1 rfl; clear hN; unfold StepTo; simp only [putAll, Act.put, List.setIfInBounds_toArray, List.set_cons_succ, List.set_cons_zero, r84, r90]; clear r84 r90
       go_wp2_with fail
       exact ⟨rfl, _, rfl, HTT.out _ _ rfl oR⟩
      ·intro x wx ox hN TT HTT; have r91 : x 12 = (.bool false) := hN.1 rfl; clear hN; unfold StepTo; simp only [putAll, Act.put, List.setIfInBounds_toArray, List.set_cons_succ, List.set_cons_zero, r91]; clear r91
       go_wp2_with fail
       exact ⟨rfl, _, rfl, HTT.out _ _ rfl oR⟩
      ·intro x wx ox hN TT HTT; have r92 : x 13 = (.bool false) := hN.1 rfl; clear hN; unfold StepTo; simp only [putAll, Act.put, List.setIfInBounds_toArray, List.set_cons_succ, List.set_cons_zero, r92]; clear r92
       go_wp2_with fail
       exact ⟨rfl, _, rfl, HTT.out _ _ rfl oR⟩
      ·intro x wx ox hN TT HTT; have r93 : x 14 = (.pointer (some ⟨bA, 2, none⟩)) := hN.1 rfl; have r92 : x 13 = (.bool false) := hN.2.1 rfl; clear hN; unfold StepTo; simp only [putAll, Act.put, List.setIfInBounds_toArray, List.set_cons_succ, List.set_cons_zero, r93, r92]; clear r93 r92; obtain ⟨n1, n2, m0, m1, m2, m3, m4, m5, m6, m7, m8, m9, m10, m11, m12, m13, m14, m15, m16, m17, m18, m19⟩ := HX.out wx ox
       go_wp2_with fail
       exact ⟨rfl, _, rfl, HTT.out _ _ rfl oR⟩
      ·intro x wx ox hN TT HTT; have r92 : x 13 = (.bool false) := hN.1 rfl; clear hN; unfold StepTo; simp only [putAll, Act.put, List.setIfInBounds_toArray, List.set_cons_succ, List.set_cons_zero, r92]; clear r92
       go_wp2_with fail
       exact ⟨rfl, _, rfl, HTT.out _ _ rfl oR⟩
      ·intro x wx ox hN TT HTT; have r94 : x 15 = (.slice (some ⟨gd, od, none⟩) LV cv) := hN.1 rfl; have r95 : x 16 = (.int .i64 (j : Int)) := hN.2.1 rfl; have r92 : x 13 = (.bool false) := hN.2.2.1 rfl; clear hN; unfold StepTo; simp only [putAll, Act.put, List.setIfInBounds_toArray, List.set_cons_succ, List.set_cons_zero, r94, r95, r92]; clear r94 r95 r92
       go_wp2_with fail
       exact ⟨rfl, _, rfl, HTT.out _ _ rfl oR⟩
      ·intro x wx ox hN TT HTT; have r96 : x 17 = (.pointer (some ⟨gd, od + j * 10, none⟩)) := hN.1 rfl; have r92 : x 13 = (.bool false) := hN.2.1 rfl; clear hN; unfold StepTo; simp only [putAll, Act.put, List.setIfInBounds_toArray, List.set_cons_succ, List.set_cons_zero, r96, r92]; clear r96 r92
       go_wp2_with fail
       exact ⟨rfl, _, rfl, HTT.out _ _ rfl oR⟩
      ·intro x wx ox hN TT HTT; have r97 : x 18 = (.pointer (some ⟨gd, od + j * 10 + 4, none⟩)) := hN.1 rfl; have r92 : x 13 = (.bool false) := hN.2.1 rfl; clear hN; unfold StepTo; simp only [putAll, Act.put, List.setIfInBounds_toArray, List.set_cons_succ, List.set_cons_zero, r97, r92]; clear r97 r92; obtain ⟨n1, n2, m0, m1, m2, m3, m4, m5, m6, m7, m8, m9, m10, m11, m12, m13, m14, m15, m16, m17, m18, m19⟩ := HX.out wx ox
       go_wp2_with fail
       exact ⟨rfl, _, rfl, HTT.out _ _ rfl oR⟩
      ·intro x wx ox hN TT HTT; have r92 : x 13 = (.bool false) := hN.1 rfl; clear hN; unfold StepTo; simp only [putAll, Act.put, List.setIfInBounds_toArray, List.set_cons_succ, List.set_cons_zero, r92]; clear r92
       go_wp2_with fail
       exact ⟨rfl, _, rfl, HTT.out _ _ rfl oR⟩
      ·intro x wx ox hN TT HTT; have r99 : x 20 = (.pointer (some ⟨bB, 2, none⟩)) := hN.1 rfl; have r92 : x 13 = (.bool false) := hN.2.1 rfl; clear hN; unfold StepTo; simp only [putAll, Act.put, List.setIfInBounds_toArray, List.set_cons_succ, List.set_cons_zero, r99, r92]; clear r99 r92; obtain ⟨n1, n2, m0, m1, m2, m3, m4, m5, m6, m7, m8, m9, m10, m11, m12, m13, m14, m15, m16, m17, m18, m19⟩ := HX.out wx ox
       go_wp2_with fail
       exact ⟨rfl, _, rfl, HTT.out _ _ rfl oR⟩
      ·intro x wx ox hN TT HTT; have r92 : x 13 = (.bool false) := hN.1 rfl; clear hN; unfold StepTo; simp only [putAll, Act.put, List.setIfInBounds_toArray, List.set_cons_succ, List.set_cons_zero, r92]; clear r92
       go_wp2_with fail
       exact ⟨rfl, _, rfl, HTT.out _ _ rfl oR⟩
      ·intro x wx ox hN TT HTT; have r100 : x 21 = (.slice (some ⟨gd', od', none⟩) LV cv') := hN.1 rfl; have r101 : x 22 = (.int .i64 (j : Int)) := hN.2.1 rfl; have r92 : x 13 = (.bool false) := hN.2.2.1 rfl; clear hN; unfold StepTo; simp only [putAll, Act.put, List.setIfInBounds_toArray, List.set_cons_succ, List.set_cons_zero, r100, r101, r92]; clear r100 r101 r92
       go_wp2_with fail
       exact ⟨rfl, _, rfl, HTT.out _ _ rfl oR⟩
      ·intro x wx ox hN TT HTT; have r102 : x 23 = (.pointer (some ⟨gd', od' + j * 10, none⟩)) := hN.1 rfl; have r92 : x 13 = (.bool false) := hN.2.1 rfl; clear hN; unfold StepTo; simp only [putAll, Act.put, List.setIfInBounds_toArray, List.set_cons_succ, List.set_cons_zero, r102, r92]; clear r102 r92
       go_wp2_with fail
       exact ⟨rfl, _, rfl, HTT.out _ _ rfl oR⟩
      ·intro x wx ox hN TT HTT; have r103 : x 24 = (.pointer (some ⟨gd', od' + j * 10 + 4, none⟩)) := hN.1 rfl; have r92 : x 13 = (.bool false) := hN.2.1 rfl; clear hN; unfold StepTo; simp only [putAll, Act.put, List.setIfInBounds_toArray, List.set_cons_succ, List.set_cons_zero, r103, r92]; clear r103 r92; obtain ⟨n1, n2, m0, m1, m2, m3, m4, m5, m6, m7, m8, m9, m10, m11, m12, m13, m14, m15, m16, m17, m18, m19⟩ := HX.out wx ox
       go_wp2_with fail
       exact ⟨rfl, _, rfl, HTT.out _ _ rfl oR⟩
      ·intro x wx ox hN TT HTT; have r98 : x 19 = (.bool dh) := hN.1 rfl; have r104 : x 25 = (.bool dh) := hN.2.1 rfl; have r92 : x 13 = (.bool false) := hN.2.2.1 rfl; clear hN; unfold StepTo; simp only [putAll, Act.put, List.setIfInBounds_toArray, List.set_cons_succ, List.set_cons_zero, r98, r104, r92]; clear r98 r104 r92
       go_wp2_with fail
       exact ⟨rfl, _, rfl, HTT.out _ _ rfl oR⟩
      ·intro x wx ox hN TT HTT; have r92 : x 13 = (.bool false) := hN.1 rfl; have r105 : x 26 = (.bool false) := hN.2.1 rfl; clear hN; unfold StepTo; simp only [putAll, Act.put, List.setIfInBounds_toArray, List.set_cons_succ, List.set_cons_zero, r92, r105]; clear r92 r105
       go_wp2_with fail
       exact ⟨rfl, _, rfl, HTT.out _ _ rfl oR⟩
      ·intro x wx ox hN TT HTT; have r106 : x 27 = (.bool false) := hN.1 rfl; have r92 : x 13 = (.bool false) := hN.2.1 rfl; clear hN; unfold StepTo; simp only [putAll, Act.put, List.setIfInBounds_toArray, List.set_cons_succ, List.set_cons_zero, r106, r92]; clear r106 r92
       go_wp2_with fail
       exact ⟨rfl, _, rfl, HTT.out _ _ rfl oR⟩
      ·intro x wx ox hN TT HTT; have r107 : x 28 = (.bool false) := hN.1 rfl; clear hN; unfold StepTo; simp only [putAll, Act.put, List.setIfInBounds_toArray, List.set_cons_succ, List.set_cons_zero, r107]; clear r107
       go_wp2_with fail
       exact ⟨rfl, _, rfl, HTT.out _ _ rfl oR⟩
      ·intro x wx ox hN TT HTT; have r108 : x 29 = (.pointer (some ⟨bA, 2, none⟩)) := hN.1 rfl; have r107 : x 28 = (.bool false) := hN.2.1 rfl; clear hN; unfold StepTo; simp only [putAll, Act.put, List.setIfInBounds_toArray, List.set_cons_succ, List.set_cons_zero, r108, r107]; clear r108 r107; obtain ⟨n1, n2, m0, m1, m2, m3, m4, m5, m6, m7, m8, m9, m10, m11, m12, m13, m14, m15, m16, m17, m18, m19⟩ := HX.out wx ox
       go_wp2_with fail
       exact ⟨rfl, _, rfl, HTT.out _ _ rfl oR⟩
      ·intro x wx ox hN TT HTT; have r107 : x 28 = (.bool false) := hN.1 rfl; clear hN; unfold StepTo; simp only [putAll, Act.put, List.setIfInBounds_toArray, List.set_cons_succ, List.set_cons_zero, r107]; clear r107
       go_wp2_with fail
       exact ⟨rfl, _, rfl, HTT.out _ _ rfl oR⟩
      ·intro x wx ox hN TT HTT; have r109 : x 30 = (.slice (some ⟨gd, od, none⟩) LV cv) := hN.1 rfl; have r110 : x 31 = (.int .i64 (j : Int)) := hN.2.1 rfl; have r107 : x 28 = (.bool false) := hN.2.2.1 rfl; clear hN; unfold StepTo; simp only [putAll, Act.put, List.setIfInBounds_toArray, List.set_cons_succ, List.set_cons_zero, r109, r110, r107]; clear r109 r110 r107
       go_wp2_with fail
       exact ⟨rfl, _, rfl, HTT.out _ _ rfl oR⟩
      ·intro x wx ox hN TT HTT; have r111 : x 32 = (.pointer (some ⟨gd, od + j * 10, none⟩)) := hN.1 rfl; have r107 : x 28 = (.bool false) := hN.2.1 rfl; clear hN; unfold StepTo; simp only [putAll, Act.put, List.setIfInBounds_toArray, List.set_cons_succ, List.set_cons_zero, r111, r107]; clear r111 r107
       go_wp2_with fail
       exact ⟨rfl, _, rfl, HTT.out _ _ rfl oR⟩
      ·intro x wx ox hN TT HTT; have r112 : x 33 = (.pointer (some ⟨gd, od + j * 10 + 5, none⟩)) := hN.1 rfl; have r107 : x 28 = (.bool false) := hN.2.1 rfl; clear hN; unfold StepTo; simp only [putAll, Act.put, List.setIfInBounds_toArray, List.set_cons_succ, List.set_cons_zero, r112, r107]; clear r112 r107; obtain ⟨n1, n2, m0, m1, m2, m3, m4, m5, m6, m7, m8, m9, m10, m11, m12, m13, m14, m15, m16, m17, m18, m19⟩ := HX.out wx ox
       go_wp2_with fail
       exact ⟨rfl, _, rfl, HTT.out _ _ rfl oR⟩
      ·intro x wx ox hN TT HTT; have r107 : x 28 = (.bool false) := hN.1 rfl; clear hN; unfold StepTo; simp only [putAll, Act.put, List.setIfInBounds_toArray, List.set_cons_succ, List.set_cons_zero, r107]; clear r107
       go_wp2_with fail
       exact ⟨rfl, _, rfl, HTT.out _ _ rfl oR⟩
      ·intro x wx ox hN TT HTT; have r114 : x 35 = (.pointer (some ⟨bB, 2, none⟩)) := hN.1 rfl; have r107 : x 28 = (.bool false) := hN.2.1 rfl; clear hN; unfold StepTo; simp only [putAll, Act.put, List.setIfInBounds_toArray, List.set_cons_succ, List.set_cons_zero, r114, r107]; clear r114 r107; obtain ⟨n1, n2, m0, m1, m2, m3, m4, m5, m6, m7, m8, m9, m10, m11, m12, m13, m14, m15, m16, m17, m18, m19⟩ := HX.out wx ox
       go_wp2_with fail
       exact ⟨rfl, _, rfl, HTT.out _ _ rfl oR⟩
      ·intro x wx ox hN TT HTT; have r107 : x 28 = (.bool false) := hN.1 rfl; clear hN; unfold StepTo; simp only [putAll, Act.put, List.setIfInBounds_toArray, List.set_cons_succ, List.set_cons_zero, r107]; clear r107
       go_wp2_with fail
       exact ⟨rfl, _, rfl, HTT.out _ _ rfl oR⟩
      ·intro x wx ox hN TT HTT; have r115 : x 36 = (.slice (some ⟨gd', od', none⟩) LV cv') := hN.1 rfl; have r116 : x 37 = (.int .i64 (j : Int)) := hN.2.1 rfl; have r107 : x 28 = (.bool false) := hN.2.2.1 rfl; clear hN; unfold StepTo; simp only [putAll, Act.put, List.setIfInBounds_toArray, List.set_cons_succ, List.set_cons_zero, r115, r116, r107]; clear r115 r116 r107
       go_wp2_with fail
       exact ⟨rfl, _, rfl, HTT.out _ _ rfl oR⟩
      ·intro x wx ox hN TT HTT; have r117 : x 38 = (.pointer (some ⟨gd', od' + j * 10, none⟩)) := hN.1 rfl; have r107 : x 28 = (.bool false) := hN.2.1 rfl; clear hN; unfold StepTo; simp only [putAll, Act.put, List.setIfInBounds_toArray, List.set_cons_succ, List.set_cons_zero, r117, r107]; clear r117 r107
       go_wp2_with fail
       exact ⟨rfl, _, rfl, HTT.out _ _ rfl oR⟩
      ·intro x wx ox hN TT HTT; have r118 : x 39 = (.pointer (some ⟨gd', od' + j * 10 + 5, none⟩)) := hN.1 rfl; have r107 : x 28 = (.bool false) := hN.2.1 rfl; clear hN; unfold StepTo; simp only [putAll, Act.put, List.setIfInBounds_toArray, List.set_cons_succ, List.set_cons_zero, r118, r107]; clear r118 r107; obtain ⟨n1, n2, m0, m1, m2, m3, m4, m5, m6, m7, m8, m9, m10, m11, m12, m13, m14, m15, m16, m17, m18, m19⟩ := HX.out wx ox
       go_wp2_with fail
       exact ⟨rfl, _, rfl, HTT.out _ _ rfl oR⟩
      ·intro x wx ox hN TT HTT; have r113 : x 34 = (.agg #[.int .u8 (vk : Int), .int .i64 vn, .string ⟨vs.toArray⟩, .slice va vl vc, .slice va2 vl2 vc2]) := hN.1 rfl; have r119 : x 40 = (.agg #[.int .u8 (uk : Int), .int .i64 un, .string ⟨us.toArray⟩, .slice ua ul uc, .slice ua2 ul2 uc2]) := hN.2.1 rfl; have r107 : x 28 = (.bool false) := hN.2.2.1 rfl; clear hN; unfold StepTo; simp only [putAll, Act.put, List.setIfInBounds_toArray, List.set_cons_succ, List.set_cons_zero, r113, r119, r107]; clear r113 r119 r107; have ht := HREC.out wx ox; have HT := hid ht; clear ht
       go_wp2_with fail
       refine HT.out.mono ?_
       rintro e w6 ⟨rfl, o6⟩; have O6 := hid o6; clear o6
       go_wp2_with fail
       exact ⟨rfl, _, rfl, HTT.out _ _ rfl (O6.out)⟩
      ·intro x wx ox hN TT HTT; have r120 : x 41 = (.bool false) := hN.1 rfl; have r107 : x 28 = (.bool false) := hN.2.1 rfl; clear hN; unfold StepTo; simp only [putAll, Act.put, List.setIfInBounds_toArray, List.set_cons_succ, List.set_cons_zero, r120, r107]; clear r120 r107
       go_wp2_with fail
       exact ⟨rfl, _, rfl, HTT.out _ _ rfl oR⟩
      ·intro x wx ox hN TT HTT; have r107 : x 28 = (.bool false) := hN.1 rfl; have r121 : x 42 = (.bool true) := hN.2.1 rfl; clear hN; unfold StepTo; simp only [putAll, Act.put, List.setIfInBounds_toArray, List.set_cons_succ, List.set_cons_zero, r107, r121]; clear r107 r121
       go_wp2_with fail
       exact ⟨rfl, _, rfl, HTT.out _ _ rfl oR⟩
      ·intro x wx ox hN TT HTT; have r122 : x 43 = (.bool true) := hN.1 rfl; have r120 : x 41 = (.bool false) := hN.2.1 rfl; clear hN; unfold StepTo; simp only [putAll, Act.put, List.setIfInBounds_toArray, List.set_cons_succ, List.set_cons_zero, r122, r120]; clear r122 r120
       go_wp2_with fail
       exact ⟨rfl, _, rfl, HTT.out _ _ rfl oR⟩
      ·intro x wx ox hN TT HTT; have r123 : x 44 = (.bool true) := hN.1 rfl; clear hN; unfold StepTo; simp only [putAll, Act.put, List.setIfInBounds_toArray, List.set_cons_succ, List.set_cons_zero, r123]; clear r123
       go_wp2_with fail
       exact ⟨rfl, _, rfl, HTT.out _ _ rfl oR⟩
      ·intro x wx ox hN TT HTT; have r124 : x 45 = undef := hN.1 rfl; have r123 : x 44 = (.bool true) := hN.2.1 rfl; clear hN; unfold StepTo; simp only [putAll, Act.put, List.setIfInBounds_toArray, List.set_cons_succ, List.set_cons_zero, r124, r123]; clear r124 r123
       go_wp2_with fail
       exact ⟨rfl, _, rfl, HTT.out _ _ rfl oR⟩
      ·intro x wx ox hN TT HTT; have r123 : x 44 = (.bool true) := hN.1 rfl; clear hN; unfold StepTo; simp only [putAll, Act.put, List.setIfInBounds_toArray, List.set_cons_succ, List.set_cons_zero, r123]; clear r123
       go_wp2_with fail
       exact ⟨rfl, _, rfl, HTT.out _ _ rfl oR⟩
      ·intro x wx ox hN TT HTT; have r125 : x 46 = undef := hN.1 rfl; have r126 : x 47 = undef := hN.2.1 rfl; have r123 : x 44 = (.bool true) := hN.2.2.1 rfl; clear hN; unfold StepTo; simp only [putAll, Act.put, List.setIfInBounds_toArray, List.set_cons_succ, List.set_cons_zero, r125, r126, r123]; clear r125 r126 r123
       go_wp2_with fail
       exact ⟨rfl, _, rfl, HTT.out _ _ rfl oR⟩
      ·intro x wx ox hN TT HTT; have r127 : x 48 = undef := hN.1 rfl; have r123 : x 44 = (.bool true) := hN.2.1 rfl; clear hN; unfold StepTo; simp only [putAll, Act.put, List.setIfInBounds_toArray, List.set_cons_succ, List.set_cons_zero, r127, r123]; clear r127 r123
       go_wp2_with fail
       exact ⟨rfl, _, rfl, HTT.out _ _ rfl oR⟩
      ·intro x wx ox hN TT HTT; have r128 : x 49 = undef := hN.1 rfl; have r123 : x 44 = (.bool true) := hN.2.1 rfl; clear hN; unfold StepTo; simp only [putAll, Act.put, List.setIfInBounds_toArray, List.set_cons_succ, List.set_cons_zero, r128, r123]; clear r128 r123
       go_wp2_with fail
       exact ⟨rfl, _, rfl, HTT.out _ _ rfl oR⟩
      ·intro x wx ox hN TT HTT; have r123 : x 44 = (.bool true) := hN.1 rfl; clear hN; unfold StepTo; simp only [putAll, Act.put, List.setIfInBounds_toArray, List.set_cons_succ, List.set_cons_zero, r123]; clear r123
       go_wp2_with fail
       exact ⟨rfl, _, rfl, HTT.out _ _ rfl oR⟩
      ·intro x wx ox hN TT HTT; have r130 : x 51 = undef := hN.1 rfl; have r123 : x 44 = (.bool true) := hN.2.1 rfl; clear hN; unfold StepTo; simp only [putAll, Act.put, List.setIfInBounds_toArray, List.set_cons_succ, List.set_cons_zero, r130, r123]; clear r130 r123
       go_wp2_with fail
       exact ⟨rfl, _, rfl, HTT.out _ _ rfl oR⟩
      ·intro x wx ox hN TT HTT; have r123 : x 44 = (.bool true) := hN.1 rfl; clear hN; unfold StepTo; simp only [putAll, Act.put, List.setIfInBounds_toArray, List.set_cons_succ, List.set_cons_zero, r123]; clear r123
       go_wp2_with fail
       exact ⟨rfl, _, rfl, HTT.out _ _ rfl oR⟩
      ·intro x wx ox hN TT HTT; have r131 : x 52 = undef := hN.1 rfl; have r132 : x 53 = undef := hN.2.1 rfl; have r123 : x 44 = (.bool true) := hN.2.2.1 rfl; clear hN; unfold StepTo; simp only [putAll, Act.put, List.setIfInBounds_toArray, List.set_cons_succ, List.set_cons_zero, r131, r132, r123]; clear r131 r132 r123
       go_wp2_with fail
       exact ⟨rfl, _, rfl, HTT.out _ _ rfl oR⟩
      ·intro x wx ox hN TT HTT; have r133 : x 54 = undef := hN.1 rfl; have r123 : x 44 = (.bool true) := hN.2.1 rfl; clear hN; unfold StepTo; simp only [putAll, Act.put, List.setIfInBounds_toArray, List.set_cons_succ, List.set_cons_zero, r133, r123]; clear r133 r123
       go_wp2_with fail
       exact ⟨rfl, _, rfl, HTT.out _ _ rfl oR⟩
      ·intro x wx ox hN TT HTT; have r134 : x 55 = undef := hN.1 rfl; have r123 : x 44 = (.bool true) := hN.2.1 rfl; clear hN; unfold StepTo; simp only [putAll, Act.put, List.setIfInBounds_toArray, List.set_cons_succ, List.set_cons_zero, r134, r123]; clear r134 r123
       go_wp2_with fail
       exact ⟨rfl, _, rfl, HTT.out _ _ rfl oR⟩
      ·intro x wx ox hN TT HTT; have r129 : x 50 = undef := hN.1 rfl; have r135 : x 56 = undef := hN.2.1 rfl; have r123 : x 44 = (.bool true) := hN.2.2.1 rfl; clear hN; unfold StepTo; simp only [putAll, Act.put, List.setIfInBounds_toArray, List.set_cons_succ, List.set_cons_zero, r129, r135, r123]; clear r129 r135 r123
       go_wp2_with fail
       exact ⟨rfl, _, rfl, HTT.out _ _ rfl oR⟩
      ·intro x wx ox hN TT HTT; have r136 : x 57 = undef := hN.1 rfl; have r123 : x 44 = (.bool true) := hN.2.1 rfl; clear hN; unfold StepTo; simp only [putAll, Act.put, List.setIfInBounds_toArray, List.set_cons_succ, List.set_cons_zero, r136, r123]; clear r136 r123
       go_wp2_with fail
       exact ⟨rfl, _, rfl, HTT.out _ _ rfl oR⟩
      intro xz wxz oxz hN; have r79 : xz 0 = (.pointer (some ⟨bA, 2, none⟩)) := hN.1; have r80 : xz 1 = (.slice (some ⟨gd, od, none⟩) LV cv) := hN.2.1; have r81 : xz 2 = (.int .i64 (j : Int)) := hN.2.2.1; have r82 : xz 3 = (.pointer (some ⟨gd, od + j * 10, none⟩)) := hN.2.2.2.1; have r83 : xz 4 = (.pointer (some ⟨gd, od + j * 10, none⟩)) := hN.2.2.2.2.1; have r84 : xz 5 = (.string ⟨dn.toArray⟩) := hN.2.2.2.2.2.1; have r85 : xz 6 = (.pointer (some ⟨bB, 2, none⟩)) := hN.2.2.2.2.2.2.1; have r86 : xz 7 = (.slice (some ⟨gd', od', none⟩) LV cv') := hN.2.2.2.2.2.2.2.1; have r87 : xz 8 = (.int .i64 (j : Int)) := hN.2.2.2.2.2.2.2.2.1; have r88 : xz 9 = (.pointer (some ⟨gd', od' + j * 10, none⟩)) := hN.2.2.2.2.2.2.2.2.2.1; have r89 : xz 10 = (.pointer (some ⟨gd', od' + j * 10, none⟩)) := hN.2.2.2.2.2.2.2.2.2.2.1; have r90 : xz 11 = (.string ⟨dn.toArray⟩) := hN.2.2.2.2.2.2.2.2.2.2.2.1; have r91 : xz 12 = (.bool false) := hN.2.2.2.2.2.2.2.2.2.2.2.2.1; have r92 : xz 13 = (.bool false) := hN.2.2.2.2.2.2.2.2.2.2.2.2.2.1; have r93 : xz 14 = (.pointer (some ⟨bA, 2, none⟩)) := hN.2.2.2.2.2.2.2.2.2.2.2.2.2.2.1; have r94 : xz 15 = (.slice (some ⟨gd, od, none⟩) LV cv) := hN.2.2.2.2.2.2.2.2.2.2.2.2.2.2.2.1; have r95 : xz 16 = (.int .i64 (j : Int)) := hN.2.2.2.2.2.2.2.2.2.2.2.2.2.2.2.2.1; have r96 : xz 17 = (.pointer (some ⟨gd, od + j * 10, none⟩)) := hN.2.2.2.2.2.2.2.2.2.2.2.2.2.2.2.2.2.1; have r97 : xz 18 = (.pointer (some ⟨gd, od + j * 10 + 4, none⟩)) := hN.2.2.2.2.2.2.2.2.2.2.2.2.2.2.2.2.2.2.1; have r98 : xz 19 = (.bool dh) := hN.2.2.2.2.2.2.2.2.2.2.2.2.2.2.2.2.2.2.2.1; have r99 : xz 20 = (.pointer (some ⟨bB, 2, none⟩)) := hN.2.2.2.2.2.2.2.2.2.2.2.2.2.2.2.2.2.2.2.2.1; have r100 : xz 21 = (.slice (some ⟨gd', od', none⟩) LV cv') := hN.2.2.2.2.2.2.2.2.2.2.2.2.2.2.2.2.2.2.2.2.2.1; have r101 : xz 22 = (.int .i64 (j : Int)) := hN.2.2.2.2.2.2.2.2.2.2.2.2.2.2.2.2.2.2.2.2.2.2.1
      have r102 : xz 23 = (.pointer (some ⟨gd', od' + j * 10, none⟩)) := hN.2.2.2.2.2.2.2.2.2.2.2.2.2.2.2.2.2.2.2.2.2.2.2.1; have r103 : xz 24 = (.pointer (some ⟨gd', od' + j * 10 + 4, none⟩)) := hN.2.2.2.2.2.2.2.2.2.2.2.2.2.2.2.2.2.2.2.2.2.2.2.2.1; have r104 : xz 25 = (.bool dh) := hN.2.2.2.2.2.2.2.2.2.2.2.2.2.2.2.2.2.2.2.2.2.2.2.2.2.1; have r105 : xz 26 = (.bool false) := hN.2.2.2.2.2.2.2.2.2.2.2.2.2.2.2.2.2.2.2.2.2.2.2.2.2.2.1; have r106 : xz 27 = (.bool false) := hN.2.2.2.2.2.2.2.2.2.2.2.2.2.2.2.2.2.2.2.2.2.2.2.2.2.2.2.1; have r107 : xz 28 = (.bool false) := hN.2.2.2.2.2.2.2.2.2.2.2.2.2.2.2.2.2.2.2.2.2.2.2.2.2.2.2.2.1; have r108 : xz 29 = (.pointer (some ⟨bA, 2, none⟩)) := hN.2.2.2.2.2.2.2.2.2.2.2.2.2.2.2.2.2.2.2.2.2.2.2.2.2.2.2.2.2.1; have r109 : xz 30 = (.slice (some ⟨gd, od, none⟩) LV cv) := hN.2.2.2.2.2.2.2.2.2.2.2.2.2.2.2.2.2.2.2.2.2.2.2.2.2.2.2.2.2.2.1; have r110 : xz 31 = (.int .i64 (j : Int)) := hN.2.2.2.2.2.2.2.2.2.2.2.2.2.2.2.2.2.2.2.2.2.2.2.2.2.2.2.2.2.2.2.1; have r111 : xz 32 = (.pointer (some ⟨gd, od + j * 10, none⟩)) := hN.2.2.2.2.2.2.2.2.2.2.2.2.2.2.2.2.2.2.2.2.2.2.2.2.2.2.2.2.2.2.2.2.1; have r112 : xz 33 = (.pointer (some ⟨gd, od + j * 10 + 5, none⟩)) := hN.2.2.2.2.2.2.2.2.2.2.2.2.2.2.2.2.2.2.2.2.2.2.2.2.2.2.2.2.2.2.2.2.2.1; have r113 : xz 34 = (.agg #[.int .u8 (vk : Int), .int .i64 vn, .string ⟨vs.toArray⟩, .slice va vl vc, .slice va2 vl2 vc2]) := hN.2.2.2.2.2.2.2.2.2.2.2.2.2.2.2.2.2.2.2.2.2.2.2.2.2.2.2.2.2.2.2.2.2.2.1; have r114 : xz 35 = (.pointer (some ⟨bB, 2, none⟩)) := hN.2.2.2.2.2.2.2.2.2.2.2.2.2.2.2.2.2.2.2.2.2.2.2.2.2.2.2.2.2.2.2.2.2.2.2.1; have r115 : xz 36 = (.slice (some ⟨gd', od', none⟩) LV cv') := hN.2.2.2.2.2.2.2.2.2.2.2.2.2.2.2.2.2.2.2.2.2.2.2.2.2.2.2.2.2.2.2.2.2.2.2.2.1; have r116 : xz 37 = (.int .i64 (j : Int)) := hN.2.2.2.2.2.2.2.2.2.2.2.2.2.2.2.2.2.2.2.2.2.2.2.2.2.2.2.2.2.2.2.2.2.2.2.2.2.1
      have r117 : xz 38 = (.pointer (some ⟨gd', od' + j * 10, none⟩)) := hN.2.2.2.2.2.2.2.2.2.2.2.2.2.2.2.2.2.2.2.2.2.2.2.2.2.2.2.2.2.2.2.2.2.2.2.2.2.2.1; have r118 : xz 39 = (.pointer (some ⟨gd', od' + j * 10 + 5, none⟩)) := hN.2.2.2.2.2.2.2.2.2.2.2.2.2.2.2.2.2.2.2.2.2.2.2.2.2.2.2.2.2.2.2.2.2.2.2.2.2.2.2.1; have r119 : xz 40 = (.agg #[.int .u8 (uk : Int), .int .i64 un, .string ⟨us.toArray⟩, .slice ua ul uc, .slice ua2 ul2 uc2]) := hN.2.2.2.2.2.2.2.2.2.2.2.2.2.2.2.2.2.2.2.2.2.2.2.2.2.2.2.2.2.2.2.2.2.2.2.2.2.2.2.2.1; have r120 : xz 41 = (.bool false) := hN.2.2.2.2.2.2.2.2.2.2.2.2.2.2.2.2.2.2.2.2.2.2.2.2.2.2.2.2.2.2.2.2.2.2.2.2.2.2.2.2.2.1; have r121 : xz 42 = (.bool true) := hN.2.2.2.2.2.2.2.2.2.2.2.2.2.2.2.2.2.2.2.2.2.2.2.2.2.2.2.2.2.2.2.2.2.2.2.2.2.2.2.2.2.2.1; have r122 : xz 43 = (.bool true) := hN.2.2.2.2.2.2.2.2.2.2.2.2.2.2.2.2.2.2.2.2.2.2.2.2.2.2.2.2.2.2.2.2.2.2.2.2.2.2.2.2.2.2.2.1; have r123 : xz 44 = (.bool true) := hN.2.2.2.2.2.2.2.2.2.2.2.2.2.2.2.2.2.2.2.2.2.2.2.2.2.2.2.2.2.2.2.2.2.2.2.2.2.2.2.2.2.2.2.2.1; have r124 : xz 45 = undef := hN.2.2.2.2.2.2.2.2.2.2.2.2.2.2.2.2.2.2.2.2.2.2.2.2.2.2.2.2.2.2.2.2.2.2.2.2.2.2.2.2.2.2.2.2.2.1; have r125 : xz 46 = undef := hN.2.2.2.2.2.2.2.2.2.2.2.2.2.2.2.2.2.2.2.2.2.2.2.2.2.2.2.2.2.2.2.2.2.2.2.2.2.2.2.2.2.2.2.2.2.2.1; have r126 : xz 47 = undef := hN.2.2.2.2.2.2.2.2.2.2.2.2.2.2.2.2.2.2.2.2.2.2.2.2.2.2.2.2.2.2.2.2.2.2.2.2.2.2.2.2.2.2.2.2.2.2.2.1; have r127 : xz 48 = undef := hN.2.2.2.2.2.2.2.2.2.2.2.2.2.2.2.2.2.2.2.2.2.2.2.2.2.2.2.2.2.2.2.2.2.2.2.2.2.2.2.2.2.2.2.2.2.2.2.2.1; have r128 : xz 49 = undef := hN.2.2.2.2.2.2.2.2.2.2.2.2.2.2.2.2.2.2.2.2.2.2.2.2.2.2.2.2.2.2.2.2.2.2.2.2.2.2.2.2.2.2.2.2.2.2.2.2.2.1; have r129 : xz 50 = undef := hN.2.2.2.2.2.2.2.2.2.2.2.2.2.2.2.2.2.2.2.2.2.2.2.2.2.2.2.2.2.2.2.2.2.2.2.2.2.2.2.2.2.2.2.2.2.2.2.2.2.2.1; have r130 : xz 51 = undef := hN.2.2.2.2.2.2.2.2.2.2.2.2.2.2.2.2.2.2.2.2.2.2.2.2.2.2.2.2.2.2.2.2.2.2.2.2.2.2.2.2.2.2.2.2.2.2.2.2.2.2.2.1
      have r131 : xz 52 = undef := hN.2.2.2.2.2.2.2.2.2.2.2.2.2.2.2.2.2.2.2.2.2.2.2.2.2.2.2.2.2.2.2.2.2.2.2.2.2.2.2.2.2.2.2.2.2.2.2.2.2.2.2.2.1; have r132 : xz 53 = undef := hN.2.2.2.2.2.2.2.2.2.2.2.2.2.2.2.2.2.2.2.2.2.2.2.2.2.2.2.2.2.2.2.2.2.2.2.2.2.2.2.2.2.2.2.2.2.2.2.2.2.2.2.2.2.1; have r133 : xz 54 = undef := hN.2.2.2.2.2.2.2.2.2.2.2.2.2.2.2.2.2.2.2.2.2.2.2.2.2.2.2.2.2.2.2.2.2.2.2.2.2.2.2.2.2.2.2.2.2.2.2.2.2.2.2.2.2.2.1; have r134 : xz 55 = undef := hN.2.2.2.2.2.2.2.2.2.2.2.2.2.2.2.2.2.2.2.2.2.2.2.2.2.2.2.2.2.2.2.2.2.2.2.2.2.2.2.2.2.2.2.2.2.2.2.2.2.2.2.2.2.2.2.1; have r135 : xz 56 = undef := hN.2.2.2.2.2.2.2.2.2.2.2.2.2.2.2.2.2.2.2.2.2.2.2.2.2.2.2.2.2.2.2.2.2.2.2.2.2.2.2.2.2.2.2.2.2.2.2.2.2.2.2.2.2.2.2.2.1; have r136 : xz 57 = undef := hN.2.2.2.2.2.2.2.2.2.2.2.2.2.2.2.2.2.2.2.2.2.2.2.2.2.2.2.2.2.2.2.2.2.2.2.2.2.2.2.2.2.2.2.2.2.2.2.2.2.2.2.2.2.2.2.2.2.1; have r137 : xz 58 = undef := hN.2.2.2.2.2.2.2.2.2.2.2.2.2.2.2.2.2.2.2.2.2.2.2.2.2.2.2.2.2.2.2.2.2.2.2.2.2.2.2.2.2.2.2.2.2.2.2.2.2.2.2.2.2.2.2.2.2.2.1; clear hN; simp only [putAll, Act.put, List.setIfInBounds_toArray, List.set_cons_succ, List.set_cons_zero, r79, r80, r81, r82, r83, r84, r85, r86, r87, r88, r89, r90, r91, r92, r93, r94, r95, r96, r97, r98, r99, r100, r101, r102, r103, r104, r105, r106, r107, r108, r109, r110, r111, r112, r113, r114, r115, r116, r117, r118, r119, r120, r121, r122, r123, r124, r125, r126, r127, r128, r129, r130, r131, r132, r133, r134, r135, r136, r137]; clear r79 r80 r81 r82 r83 r84 r85 r86 r87 r88 r89 r90 r91 r92 r93 r94 r95 r96 r97 r98 r99 r100 r101 r102 r103 r104 r105 r106 r107 r108 r109 r110 r111 r112 r113 r114 r115 r116 r117 r118 r119 r120 r121 r122 r123 r124 r125 r126 r127 r128 r129 r130 r131 r132 r133 r134 r135 r136 r137; have OZ := hid (HP.out.trans ((Only.refl _ wr).drew.trans oxz)); clear oxz
      have hRf : R = false := HNR.out (by
       cases R1 with
       | false => rfl
       | true => exact absurd (HALL.out.1 rfl) (fun h => by cases h.2.2.1))
      subst hRf
      go_wp2_with fail
      go_ret
      exact ⟨rfl, HOB.out.trans OZ.out⟩
     | true =>
      as_aux_lemma =>
      refine wp_region_steps 59 (by kernel_rfl) rfl (by kernel_rfl) [some 79, some 80, some 81, some 82, some 83, some 84, some 85, some 86, some 87, some 88, some 89, some 90, some 91, some 92, some 93, some 94, some 95, some 96, some 97, some 98, some 99, some 100, some 101, some 102, some 103, some 104, some 105, some 106, some 107, some 108, some 109, some 110, some 111, some 112, some 113, some 114, some 115, some 116, some 117, some 118, some 119, some 120, some 121, some 122, some 123, some 124, some 125, some 126, some 127, some 128, some 129, some 130, some 131, some 132, some 133, some 134, some 135, some 136, some 137] rfl rfl (fun _ => False) [(fun v _ => v = (.pointer (some ⟨bA, 2, none⟩))), (fun v _ => v = (.slice (some ⟨gd, od, none⟩) LV cv)), (fun v _ => v = (.int .i64 (j : Int))), (fun v _ => v = (.pointer (some ⟨gd, od + j * 10, none⟩))), (fun v _ => v = (.pointer (some ⟨gd, od + j * 10, none⟩))), (fun v _ => v = (.string ⟨dn.toArray⟩)), (fun v _ => v = (.pointer (some ⟨bB, 2, none⟩))), (fun v _ => v = (.slice (some ⟨gd', od', none⟩) LV cv')), (fun v _ => v = (.int .i64 (j : Int))), (fun v _ => v = (.pointer (some ⟨gd', od' + j * 10, none⟩))), (fun v _ => v = (.pointer (some ⟨gd', od' + j * 10, none⟩))), (fun v _ => v = (.string ⟨dn.toArray⟩)), (fun v _ => v = (.bool false)), (fun v _ => v = (.bool false)), (fun v _ => v = (.pointer (some ⟨bA, 2, none⟩))), (fun v _ => v = (.slice (some ⟨gd, od, none⟩) LV cv)), (fun v _ => v = (.int .i64 (j : Int))), (fun v _ => v = (.pointer (some ⟨gd, od + j * 10, none⟩))), (fun v _ => v = (.pointer (some ⟨gd, od + j * 10 + 4, none⟩))), (fun v _ => v = (.bool dh)), (fun v _ => v = (.pointer (some ⟨bB, 2, none⟩))), (fun v _ => v = (.slice (some ⟨gd', od', none⟩) LV cv')), (fun v _ => v = (.int .i64 (j : Int))), (fun v _ => v = (.pointer (some ⟨gd', od' + j * 10, none⟩))), (fun v _ => v = (.pointer (some ⟨gd', od' + j * 10 + 4, none⟩))), (fun v _ => v = (.bool dh)), (fun v _ => v = (.bool false)), (fun v _ => v = (.bool false)), (fun v _ => v = (.bool false)), (fun v _ => v = (.pointer (some ⟨bA, 2, none⟩))), (fun v _ => v = (.slice (some ⟨gd, od, none⟩) LV cv)), (fun v _ => v = (.int .i64 (j : Int))), (fun v _ => v = (.pointer (some ⟨gd, od + j * 10, none⟩))), (fun v _ => v = (.pointer (some ⟨gd, od + j * 10 + 5, none⟩))), (fun v _ => v = (.agg #[.int .u8 (vk : Int), .int .i64 vn, .string ⟨vs.toArray⟩, .slice va vl vc, .slice va2 vl2 vc2])), (fun v _ => v = (.pointer (some ⟨bB, 2, none⟩))), (fun v _ => v = (.slice (some ⟨gd', od', none⟩) LV cv')), (fun v _ => v = (.int .i64 (j : Int))), (fun v _ => v = (.pointer (some ⟨gd', od' + j * 10, none⟩))), (fun v _ => v = (.pointer (some ⟨gd', od' + j * 10 + 5, none⟩))), (fun v _ => v = (.agg #[.int .u8 (uk : Int), .int .i64 un, .string ⟨us.toArray⟩, .slice ua ul uc, .slice ua2 ul2 uc2])), (fun v _ => v = (.bool true)), (fun v _ => v = (.bool false)), (fun v _ => v = (.bool false)), (fun v _ => v = (.bool false)), (fun v _ => v = (.pointer (some ⟨bA, 2, none⟩))), (fun v _ => v = (.slice (some ⟨gd, od, none⟩) LV cv)), (fun v _ => v = (.int .i64 (j : Int))), (fun v _ => v = (.pointer (some ⟨gd, od + j * 10, none⟩))), (fun v _ => v = (.pointer (some ⟨gd, od + j * 10 + 1, none⟩))), (fun v _ => v = (.agg #[.string ⟨s1.toArray⟩, .slice a1 m1 c1, .bool b1])), (fun v _ => v = (.pointer (some ⟨bB, 2, none⟩))), (fun v _ => v = (.slice (some ⟨gd', od', none⟩) LV cv')), (fun v _ => v = (.int .i64 (j : Int))), (fun v _ => v = (.pointer (some ⟨gd', od' + j * 10, none⟩))), (fun v _ => v = (.pointer (some ⟨gd', od' + j * 10 + 1, none⟩))), (fun v _ => v = (.agg #[.string ⟨s2.toArray⟩, .slice a2 m2 c2', .bool b2])), (fun v _ => v = (.bool RT)), (fun v _ => v = (.bool (!RT)))] rfl ⟨?_, ?_, ?_, ?_, ?_, ?_, ?_, ?_, ?_, ?_, ?_, ?_, ?_, ?_, ?_, ?_, ?_, ?_, ?_, ?_, ?_, ?_, ?_, ?_, ?_, ?_, ?_, ?_, ?_, ?_, ?_, ?_, ?_, ?_, ?_, ?_, ?_, ?_, ?_, ?_, ?_, ?_, ?_, ?_, ?_, ?_, ?_, ?_, ?_, ?_, ?_, ?_, ?_, ?_, ?_, ?_, ?_, ?_, ?_, trivial⟩ _ rfl ⟨?_, ?_, ?_, ?_, ?_, ?_, ?_, ?_, ?_, ?_, ?_, ?_, ?_, ?_, ?_, ?_, ?_, ?_, ?_, ?_, ?_, ?_, ?_, ?_, ?_, ?_, ?_, ?_, ?_, ?_, ?_, ?_, ?_, ?_, ?_, ?_, ?_, ?_, ?_, ?_, ?_, ?_, ?_, ?_, ?_, ?_, ?_, ?_, ?_, ?_, ?_, ?_, ?_, ?_, ?_, ?_, ?_, ?_, ?_, trivial⟩ ?_
      iterate 59 exact Stable.is _ _
      ·intro x wx ox hN TT HTT; clear hN; unfold StepTo; simp only [putAll, Act.put, List.setIfInBounds_toArray, List.set_cons_succ, List.set_cons_zero]
       go_wp2_with fail
       exact ⟨rfl, _, rfl, HTT.out _ _ rfl oR⟩
      ·intro x wx ox hN TT HTT; have r79 : x 0 = (.pointer (some ⟨bA, 2, none⟩)) := hN.1 rfl; clear hN; unfold StepTo; simp only [putAll, Act.put, List.setIfInBounds_toArray, List.set_cons_succ, List.set_cons_zero, r79]; clear r79; obtain ⟨n1, n2, m0, m1, m2, m3, m4, m5, m6, m7, m8, m9, m10, m11, m12, m13, m14, m15, m16, m17, m18, m19⟩ := HX.out wx ox
       go_wp2_with fail
       exact ⟨rfl, _, rfl, HTT.out _ _ rfl oR⟩
      ·intro x wx ox hN TT HTT; clear hN; unfold StepTo; simp only [putAll, Act.put, List.setIfInBounds_toArray, List.set_cons_succ, List.set_cons_zero]
       go_wp2_with fail
       exact ⟨rfl, _, rfl, HTT.out _ _ rfl oR⟩
      ·intro x wx ox hN TT HTT; have r80 : x 1 = (.slice (some ⟨gd, od, none⟩) LV cv) := hN.1 rfl; have r81 : x 2 = (.int .i64 (j : Int)) := hN.2.1 rfl; clear hN; unfold StepTo; simp only [putAll, Act.put, List.setIfInBounds_toArray, List.set_cons_succ, List.set_cons_zero, r80, r81]; clear r80 r81
       go_wp2_with fail
       exact ⟨rfl, _, rfl, HTT.out _ _ rfl oR⟩
      ·intro x wx ox hN TT HTT; have r82 : x 3 = (.pointer (some ⟨gd, od + j * 10, none⟩)) := hN.1 rfl; clear hN; unfold StepTo; simp only [putAll, Act.put, List.setIfInBounds_toArray, List.set_cons_succ, List.set_cons_zero, r82]; clear r82
       go_wp2_with fail
       exact ⟨rfl, _, rfl, HTT.out _ _ rfl oR⟩
      ·intro x wx ox hN TT HTT; have r83 : x 4 = (.pointer (some ⟨gd, od + j * 10, none⟩)) := hN.1 rfl; clear hN; unfold StepTo; simp only [putAll, Act.put, List.setIfInBounds_toArray, List.set_cons_succ, List.set_cons_zero, r83]; clear r83; obtain ⟨n1, n2, m0, m1, m2, m3, m4, m5, m6, m7, m8, m9, m10, m11, m12, m13, m14, m15, m16, m17, m18, m19⟩ := HX.out wx ox
       go_wp2_with fail
       exact ⟨rfl, _, rfl, HTT.out _ _ rfl oR⟩
      ·intro x wx ox hN TT HTT; clear hN; unfold StepTo; simp only [putAll, Act.put, List.setIfInBounds_toArray, List.set_cons_succ, List.set_cons_zero]
       go_wp2_with fail
       exact ⟨rfl, _, rfl, HTT.out _ _ rfl oR⟩
      ·intro x wx ox hN TT HTT; have r85 : x 6 = (.pointer (some ⟨bB, 2, none⟩)) := hN.1 rfl; clear hN; unfold StepTo; simp only [putAll, Act.put, List.setIfInBounds_toArray, List.set_cons_succ, List.set_cons_zero, r85]; clear r85; obtain ⟨n1, n2, m0, m1, m2, m3, m4, m5, m6, m7, m8, m9, m10, m11, m12, m13, m14, m15, m16, m17, m18, m19⟩ := HX.out wx ox
       go_wp2_with fail
       exact ⟨rfl, _, rfl, HTT.out _ _ rfl oR⟩
      ·intro x wx ox hN TT HTT; clear hN; unfold StepTo; simp only [putAll, Act.put, List.setIfInBounds_toArray, List.set_cons_succ, List.set_cons_zero]
       go_wp2_with fail
       exact ⟨rfl, _, rfl, HTT.out _ _ rfl oR⟩
      ·intro x wx ox hN TT HTT; have r86 : x 7 = (.slice (some ⟨gd', od', none⟩) LV cv') := hN.1 rfl; have r87 : x 8 = (.int .i64 (j : Int)) := hN.2.1 rfl; clear hN; unfold StepTo; simp only [putAll, Act.put, List.setIfInBounds_toArray, List.set_cons_succ, List.set_cons_zero, r86, r87]; clear r86 r87
       go_wp2_with fail
       exact ⟨rfl, _, rfl, HTT.out _ _ rfl oR⟩
      ·intro x wx ox hN TT HTT; have r88 : x 9 = (.pointer (some ⟨gd', od' + j * 10, none⟩)) := hN.1 rfl; clear hN; unfold StepTo; simp only [putAll, Act.put, List.setIfInBounds_toArray, List.set_cons_succ, List.set_cons_zero, r88]; clear r88
       go_wp2_with fail
       exact ⟨rfl, _, rfl, HTT.out _ _ rfl oR⟩
      ·intro x wx ox hN TT HTT; have r89 : x 10 = (.pointer (some ⟨gd', od' + j * 10, none⟩)) := hN.1 rfl; clear hN; unfold StepTo; simp only [putAll, Act.put, List.setIfInBounds_toArray, List.set_cons_succ, List.set_cons_zero, r89]; clear r89; obtain ⟨n1, n2, m0, m1, m2, m3, m4, m5, m6, m7, m8, m9, m10, m11, m12, m13, m14, m15, m16, m17, m18, m19⟩ := HX.out wx ox
       go_wp2_with fail
       exact ⟨rfl, _, rfl, HTT.out _ _ rfl oR⟩
      ·intro x wx ox hN TT HTT; have r84 : x 5 = (.string ⟨dn.toArray⟩) := hN.1 rfl; have r90 : x 11 = (.string ⟨dn.toArray⟩) := hN.2.1 rfl; clear hN; unfold StepTo; simp only [putAll, Act.put, List.setIfInBounds_toArray, List.set_cons_succ, List.set_cons_zero, r84, r90]; clear r84 r90
       go_wp2_with fail
       exact ⟨rfl, _, rfl, HTT.out _ _ rfl oR⟩
      ·intro x wx ox hN TT HTT; have r91 : x 12 = (.bool false) := hN.1 rfl; clear hN; unfold StepTo; simp only [putAll, Act.put, List.setIfInBounds_toArray, List.set_cons_succ, List.set_cons_zero, r91]; clear r91
       go_wp2_with fail
       exact ⟨rfl, _, rfl, HTT.out _ _ rfl oR⟩
      ·intro x wx ox hN TT HTT; have r92 : x 13 = (.bool false) := hN.1 rfl; clear hN; unfold StepTo; simp only [putAll, Act.put, List.setIfInBounds_toArray, List.set_cons_succ, List.set_cons_zero, r92]; clear r92
       go_wp2_with fail
       exact ⟨rfl, _, rfl, HTT.out _ _ rfl oR⟩
      ·intro x wx ox hN TT HTT; have r93 : x 14 = (.pointer (some ⟨bA, 2, none⟩)) := hN.1 rfl; have r92 : x 13 = (.bool false) := hN.2.1 rfl; clear hN; unfold StepTo; simp only [putAll, Act.put, List.setIfInBounds_toArray, List.set_cons_succ, List.set_cons_zero, r93, r92]; clear r93 r92; obtain ⟨n1, n2, m0, m1, m2, m3, m4, m5, m6, m7, m8, m9, m10, m11, m12, m13, m14, m15, m16, m17, m18, m19⟩ := HX.out wx ox
       go_wp2_with fail
       exact ⟨rfl, _, rfl, HTT.out _ _ rfl oR⟩
      ·intro x wx ox hN TT HTT; have r92 : x 13 = (.bool false) := hN.1 rfl; clear hN; unfold StepTo; simp only [putAll, Act.put, List.setIfInBounds_toArray, List.set_cons_succ, List.set_cons_zero, r92]; clear r92
       go_wp2_with fail
       exact ⟨rfl, _, rfl, HTT.out _ _ rfl oR⟩
      ·intro x wx ox hN TT HTT; have r94 : x 15 = (.slice (some ⟨gd, od, none⟩) LV cv) := hN.1 rfl; have r95 : x 16 = (.int .i64 (j : Int)) := hN.2.1 rfl; have r92 : x 13 = (.bool false) := hN.2.2.1 rfl; clear hN; unfold StepTo; simp only [putAll, Act.put, List.setIfInBounds_toArray, List.set_cons_succ, List.set_cons_zero, r94, r95, r92]; clear r94 r95 r92
       go_wp2_with fail
       exact ⟨rfl, _, rfl, HTT.out _ _ rfl oR⟩
      ·intro x wx ox hN TT HTT; have r96 : x 17 = (.pointer (some ⟨gd, od + j * 10, none⟩)) := hN.1 rfl; have r92 : x 13 = (.bool false) := hN.2.1 rfl; clear hN; unfold StepTo; simp only [putAll, Act.put, List.setIfInBounds_toArray, List.set_cons_succ, List.set_cons_zero, r96, r92]; clear r96 r92
       go_wp2_with fail
       exact ⟨rfl, _, rfl, HTT.out _ _ rfl oR⟩
      ·intro x wx ox hN TT HTT; have r97 : x 18 = (.pointer (some ⟨gd, od + j * 10 + 4, none⟩)) := hN.1 rfl; have r92 : x 13 = (.bool false) := hN.2.1 rfl; clear hN; unfold StepTo; simp only [putAll, Act.put, List.setIfInBounds_toArray, List.set_cons_succ, List.set_cons_zero, r97, r92]; clear r97 r92; obtain ⟨n1, n2, m0, m1, m2, m3, m4, m5, m6, m7, m8, m9, m10, m11, m12, m13, m14, m15, m16, m17, m18, m19⟩ := HX.out wx ox
       go_wp2_with fail
       exact ⟨rfl, _, rfl, HTT.out _ _ rfl oR⟩
      ·intro x wx ox hN TT HTT; have r92 : x 13 = (.bool false) := hN.1 rfl; clear hN; unfold StepTo; simp only [putAll, Act.put, List.setIfInBounds_toArray, List.set_cons_succ, List.set_cons_zero, r92]; clear r92
       go_wp2_with fail
       exact ⟨rfl, _, rfl, HTT.out _ _ rfl oR⟩
      ·intro x wx ox hN TT HTT; have r99 : x 20 = (.pointer (some ⟨bB, 2, none⟩)) := hN.1 rfl; have r92 : x 13 = (.bool false) := hN.2.1 rfl; clear hN; unfold StepTo; simp only [putAll, Act.put, List.setIfInBounds_toArray, List.set_cons_succ, List.set_cons_zero, r99, r92]; clear r99 r92; obtain ⟨n1, n2, m0, m1, m2, m3, m4, m5, m6, m7, m8, m9, m10, m11, m12, m13, m14, m15, m16, m17, m18, m19⟩ := HX.out wx ox
       go_wp2_with fail
       exact ⟨rfl, _, rfl, HTT.out _ _ rfl oR⟩
      ·intro x wx ox hN TT HTT; have r92 : x 13 = (.bool false) := hN.1 rfl; clear hN; unfold StepTo; simp only [putAll, Act.put, List.setIfInBounds_toArray, List.set_cons_succ, List.set_cons_zero, r92]; clear r92
       go_wp2_with fail
       exact ⟨rfl, _, rfl, HTT.out _ _ rfl oR⟩
      ·intro x wx ox hN TT HTT; have r100 : x 21 = (.slice (some ⟨gd', od', none⟩) LV cv') := hN.1 rfl; have r101 : x 22 = (.int .i64 (j : Int)) := hN.2.1 rfl; have r92 : x 13 = (.bool false) := hN.2.2.1 rfl; clear hN; unfold StepTo; simp only [putAll, Act.put, List.setIfInBounds_toArray, List.set_cons_succ, List.set_cons_zero, r100, r101, r92]; clear r100 r101 r92
       go_wp2_with fail
       exact ⟨rfl, _, rfl, HTT.out _ _ rfl oR⟩
      ·intro x wx ox hN TT HTT; have r102 : x 23 = (.pointer (some ⟨gd', od' + j * 10, none⟩)) := hN.1 rfl; have r92 : x 13 = (.bool false) := hN.2.1 rfl; clear hN; unfold StepTo; simp only [putAll, Act.put, List.setIfInBounds_toArray, List.set_cons_succ, List.set_cons_zero, r102, r92]; clear r102 r92
       go_wp2_with fail
       exact ⟨rfl, _, rfl, HTT.out _ _ rfl oR⟩
      ·intro x wx ox hN TT HTT; have r103 : x 24 = (.pointer (some ⟨gd', od' + j * 10 + 4, none⟩)) := hN.1 rfl; have r92 : x 13 = (.bool false) := hN.2.1 rfl; clear hN; unfold StepTo; simp only [putAll, Act.put, List.setIfInBounds_toArray, List.set_cons_succ, List.set_cons_zero, r103, r92]; clear r103 r92; obtain ⟨n1, n2, m0, m1, m2, m3, m4, m5, m6, m7, m8, m9, m10, m11, m12, m13, m14, m15, m16, m17, m18, m19⟩ := HX.out wx ox
       go_wp2_with fail
       exact ⟨rfl, _, rfl, HTT.out _ _ rfl oR⟩
      ·intro x wx ox hN TT HTT; have r98 : x 19 = (.bool dh) := hN.1 rfl; have r104 : x 25 = (.bool dh) := hN.2.1 rfl; have r92 : x 13 = (.bool false) := hN.2.2.1 rfl; clear hN; unfold StepTo; simp only [putAll, Act.put, List.setIfInBounds_toArray, List.set_cons_succ, List.set_cons_zero, r98, r104, r92]; clear r98 r104 r92
       go_wp2_with fail
       exact ⟨rfl, _, rfl, HTT.out _ _ rfl oR⟩
      ·intro x wx ox hN TT HTT; have r92 : x 13 = (.bool false) := hN.1 rfl; have r105 : x 26 = (.bool false) := hN.2.1 rfl; clear hN; unfold StepTo; simp only [putAll, Act.put, List.setIfInBounds_toArray, List.set_cons_succ, List.set_cons_zero, r92, r105]; clear r92 r105
       go_wp2_with fail
       exact ⟨rfl, _, rfl, HTT.out _ _ rfl oR⟩
      ·intro x wx ox hN TT HTT; have r106 : x 27 = (.bool false) := hN.1 rfl; have r92 : x 13 = (.bool false) := hN.2.1 rfl; clear hN; unfold StepTo; simp only [putAll, Act.put, List.setIfInBounds_toArray, List.set_cons_succ, List.set_cons_zero, r106, r92]; clear r106 r92
       go_wp2_with fail
       exact ⟨rfl, _, rfl, HTT.out _ _ rfl oR⟩
      ·intro x wx ox hN TT HTT; have r107 : x 28 = (.bool false) := hN.1 rfl; clear hN; unfold StepTo; simp only [putAll, Act.put, List.setIfInBounds_toArray, List.set_cons_succ, List.set_cons_zero, r107]; clear r107
       go_wp2_with fail
       exact ⟨rfl, _, rfl, HTT.out _ _ rfl oR⟩
      ·intro x wx ox hN TT HTT; have r108 : x 29 = (.pointer (some ⟨bA, 2, none⟩)) := hN.1 rfl; have r107 : x 28 = (.bool false) := hN.2.1 rfl; clear hN; unfold StepTo; simp only [putAll, Act.put, List.setIfInBounds_toArray, List.set_cons_succ, List.set_cons_zero, r108, r107]; clear r108 r107; obtain ⟨n1, n2, m0, m1, m2, m3, m4, m5, m6, m7, m8, m9, m10, m11, m12, m13, m14, m15, m16, m17, m18, m19⟩ := HX.out wx ox
       go_wp2_with fail
       exact ⟨rfl, _, rfl, HTT.out _ _ rfl oR⟩
      ·intro x wx ox hN TT HTT; have r107 : x 28 = (.bool false) := hN.1 rfl; clear hN; unfold StepTo; simp only [putAll, Act.put, List.setIfInBounds_toArray, List.set_cons_succ, List.set_cons_zero, r107]; clear r107
       go_wp2_with fail
       exact ⟨rfl, _, rfl, HTT.out _ _ rfl oR⟩
      ·intro x wx ox hN TT HTT; have r109 : x 30 = (.slice (some ⟨gd, od, none⟩) LV cv) := hN.1 rfl; have r110 : x 31 = (.int .i64 (j : Int)) := hN.2.1 rfl; have r107 : x 28 = (.bool false) := hN.2.2.1 rfl; clear hN; unfold StepTo; simp only [putAll, Act.put, List.setIfInBounds_toArray, List.set_cons_succ, List.set_cons_zero, r109, r110, r107]; clear r109 r110 r107
       go_wp2_with fail
       exact ⟨rfl, _, rfl, HTT.out _ _ rfl oR⟩
      ·intro x wx ox hN TT HTT; have r111 : x 32 = (.pointer (some ⟨gd, od + j * 10, none⟩)) := hN.1 rfl; have r107 : x 28 = (.bool false) := hN.2.1 rfl; clear hN; unfold StepTo; simp only [putAll, Act.put, List.setIfInBounds_toArray, List.set_cons_succ, List.set_cons_zero, r111, r107]; clear r111 r107
       go_wp2_with fail
       exact ⟨rfl, _, rfl, HTT.out _ _ rfl oR⟩
      ·intro x wx ox hN TT HTT; have r112 : x 33 = (.pointer (some ⟨gd, od + j * 10 + 5, none⟩)) := hN.1 rfl; have r107 : x 28 = (.bool false) := hN.2.1 rfl; clear hN; unfold StepTo; simp only [putAll, Act.put, List.setIfInBounds_toArray, List.set_cons_succ, List.set_cons_zero, r112, r107]; clear r112 r107; obtain ⟨n1, n2, m0, m1, m2, m3, m4, m5, m6, m7, m8, m9, m10, m11, m12, m13, m14, m15, m16, m17, m18, m19⟩ := HX.out wx ox
       go_wp2_with fail
       exact ⟨rfl, _, rfl, HTT.out _ _ rfl oR⟩
      ·intro x wx ox hN TT HTT; have r107 : x 28 = (.bool false) := hN.1 rfl; clear hN; unfold StepTo; simp only [putAll, Act.put, List.setIfInBounds_toArray, List.set_cons_succ, List.set_cons_zero, r107]; clear r107
       go_wp2_with fail
       exact ⟨rfl, _, rfl, HTT.out _ _ rfl oR⟩
      ·intro x wx ox hN TT HTT; have r114 : x 35 = (.pointer (some ⟨bB, 2, none⟩)) := hN.1 rfl; have r107 : x 28 = (.bool false) := hN.2.1 rfl; clear hN; unfold StepTo; simp only [putAll, Act.put, List.setIfInBounds_toArray, List.set_cons_succ, List.set_cons_zero, r114, r107]; clear r114 r107; obtain ⟨n1, n2, m0, m1, m2, m3, m4, m5, m6, m7, m8, m9, m10, m11, m12, m13, m14, m15, m16, m17, m18, m19⟩ := HX.out wx ox
       go_wp2_with fail
       exact ⟨rfl, _, rfl, HTT.out _ _ rfl oR⟩
      ·intro x wx ox hN TT HTT; have r107 : x 28 = (.bool false) := hN.1 rfl; clear hN; unfold StepTo; simp only [putAll, Act.put, List.setIfInBounds_toArray, List.set_cons_succ, List.set_cons_zero, r107]; clear r107
       go_wp2_with fail
       exact ⟨rfl, _, rfl, HTT.out _ _ rfl oR⟩
      ·intro x wx ox hN TT HTT; have r115 : x 36 = (.slice (some ⟨gd', od', none⟩) LV cv') := hN.1 rfl; have r116 : x 37 = (.int .i64 (j : Int)) := hN.2.1 rfl; have r107 : x 28 = (.bool false) := hN.2.2.1 rfl; clear hN; unfold StepTo; simp only [putAll, Act.put, List.setIfInBounds_toArray, List.set_cons_succ, List.set_cons_zero, r115, r116, r107]; clear r115 r116 r107
       go_wp2_with fail
       exact ⟨rfl, _, rfl, HTT.out _ _ rfl oR⟩
      ·intro x wx ox hN TT HTT; have r117 : x 38 = (.pointer (some ⟨gd', od' + j * 10, none⟩)) := hN.1 rfl; have r107 : x 28 = (.bool false) := hN.2.1 rfl; clear hN; unfold StepTo; simp only [putAll, Act.put, List.setIfInBounds_toArray, List.set_cons_succ, List.set_cons_zero, r117, r107]; clear r117 r107
       go_wp2_with fail
       exact ⟨rfl, _, rfl, HTT.out _ _ rfl oR⟩
      ·intro x wx ox hN TT HTT; have r118 : x 39 = (.pointer (some ⟨gd', od' + j * 10 + 5, none⟩)) := hN.1 rfl; have r107 : x 28 = (.bool false) := hN.2.1 rfl; clear hN; unfold StepTo; simp only [putAll, Act.put, List.setIfInBounds_toArray, List.set_cons_succ, List.set_cons_zero, r118, r107]; clear r118 r107; obtain ⟨n1, n2, m0, m1, m2, m3, m4, m5, m6, m7, m8, m9, m10, m11, m12, m13, m14, m15, m16, m17, m18, m19⟩ := HX.out wx ox
       go_wp2_with fail
       exact ⟨rfl, _, rfl, HTT.out _ _ rfl oR⟩
      ·intro x wx ox hN TT HTT; have r113 : x 34 = (.agg #[.int .u8 (vk : Int), .int .i64 vn, .string ⟨vs.toArray⟩, .slice va vl vc, .slice va2 vl2 vc2]) := hN.1 rfl; have r119 : x 40 = (.agg #[.int .u8 (uk : Int), .int .i64 un, .string ⟨us.toArray⟩, .slice ua ul uc, .slice ua2 ul2 uc2]) := hN.2.1 rfl; have r107 : x 28 = (.bool false) := hN.2.2.1 rfl; clear hN; unfold StepTo; simp only [putAll, Act.put, List.setIfInBounds_toArray, List.set_cons_succ, List.set_cons_zero, r113, r119, r107]; clear r113 r119 r107; have ht := HREC.out wx ox; have HT := hid ht; clear ht
       go_wp2_with fail
       refine HT.out.mono ?_
       rintro e w6 ⟨rfl, o6⟩; have O6 := hid o6; clear o6
       go_wp2_with fail
       exact ⟨rfl, _, rfl, HTT.out _ _ rfl (O6.out)⟩
      ·intro x wx ox hN TT HTT; have r120 : x 41 = (.bool true) := hN.1 rfl; have r107 : x 28 = (.bool false) := hN.2.1 rfl; clear hN; unfold StepTo; simp only [putAll, Act.put, List.setIfInBounds_toArray, List.set_cons_succ, List.set_cons_zero, r120, r107]; clear r120 r107
       go_wp2_with fail
       exact ⟨rfl, _, rfl, HTT.out _ _ rfl oR⟩
      ·intro x wx ox hN TT HTT; have r107 : x 28 = (.bool false) := hN.1 rfl; have r121 : x 42 = (.bool false) := hN.2.1 rfl; clear hN; unfold StepTo; simp only [putAll, Act.put, List.setIfInBounds_toArray, List.set_cons_succ, List.set_cons_zero, r107, r121]; clear r107 r121
       go_wp2_with fail
       exact ⟨rfl, _, rfl, HTT.out _ _ rfl oR⟩
      ·intro x wx ox hN TT HTT; have r122 : x 43 = (.bool false) := hN.1 rfl; have r120 : x 41 = (.bool true) := hN.2.1 rfl; clear hN; unfold StepTo; simp only [putAll, Act.put, List.setIfInBounds_toArray, List.set_cons_succ, List.set_cons_zero, r122, r120]; clear r122 r120
       go_wp2_with fail
       exact ⟨rfl, _, rfl, HTT.out _ _ rfl oR⟩
      ·intro x wx ox hN TT HTT; have r123 : x 44 = (.bool false) := hN.1 rfl; clear hN; unfold StepTo; simp only [putAll, Act.put, List.setIfInBounds_toArray, List.set_cons_succ, List.set_cons_zero, r123]; clear r123
       go_wp2_with fail
       exact ⟨rfl, _, rfl, HTT.out _ _ rfl oR⟩
      ·intro x wx ox hN TT HTT; have r124 : x 45 = (.pointer (some ⟨bA, 2, none⟩)) := hN.1 rfl; have r123 : x 44 = (.bool false) := hN.2.1 rfl; clear hN; unfold StepTo; simp only [putAll, Act.put, List.setIfInBounds_toArray, List.set_cons_succ, List.set_cons_zero, r124, r123]; clear r124 r123; obtain ⟨n1, n2, m0, m1, m2, m3, m4, m5, m6, m7, m8, m9, m10, m11, m12, m13, m14, m15, m16, m17, m18, m19⟩ := HX.out wx ox
       go_wp2_with fail
       exact ⟨rfl, _, rfl, HTT.out _ _ rfl oR⟩
      ·intro x wx ox hN TT HTT; have r123 : x 44 = (.bool false) := hN.1 rfl; clear hN; unfold StepTo; simp only [putAll, Act.put, List.setIfInBounds_toArray, List.set_cons_succ, List.set_cons_zero, r123]; clear r123
       go_wp2_with fail
       exact ⟨rfl, _, rfl, HTT.out _ _ rfl oR⟩
      ·intro x wx ox hN TT HTT; have r125 : x 46 = (.slice (some ⟨gd, od, none⟩) LV cv) := hN.1 rfl; have r126 : x 47 = (.int .i64 (j : Int)) := hN.2.1 rfl; have r123 : x 44 = (.bool false) := hN.2.2.1 rfl; clear hN; unfold StepTo; simp only [putAll, Act.put, List.setIfInBounds_toArray, List.set_cons_succ, List.set_cons_zero, r125, r126, r123]; clear r125 r126 r123
       go_wp2_with fail
       exact ⟨rfl, _, rfl, HTT.out _ _ rfl oR⟩
      ·intro x wx ox hN TT HTT; have r127 : x 48 = (.pointer (some ⟨gd, od + j * 10, none⟩)) := hN.1 rfl; have r123 : x 44 = (.bool false) := hN.2.1 rfl; clear hN; unfold StepTo; simp only [putAll, Act.put, List.setIfInBounds_toArray, List.set_cons_succ, List.set_cons_zero, r127, r123]; clear r127 r123
       go_wp2_with fail
       exact ⟨rfl, _, rfl, HTT.out _ _ rfl oR⟩
      ·intro x wx ox hN TT HTT; have r128 : x 49 = (.pointer (some ⟨gd, od + j * 10 + 1, none⟩)) := hN.1 rfl; have r123 : x 44 = (.bool false) := hN.2.1 rfl; clear hN; unfold StepTo; simp only [putAll, Act.put, List.setIfInBounds_toArray, List.set_cons_succ, List.set_cons_zero, r128, r123]; clear r128 r123; obtain ⟨n1, n2, m0, m1, m2, m3, m4, m5, m6, m7, m8, m9, m10, m11, m12, m13, m14, m15, m16, m17, m18, m19⟩ := HX.out wx ox
       go_wp2_with fail
       exact ⟨rfl, _, rfl, HTT.out _ _ rfl oR⟩
      ·intro x wx ox hN TT HTT; have r123 : x 44 = (.bool false) := hN.1 rfl; clear hN; unfold StepTo; simp only [putAll, Act.put, List.setIfInBounds_toArray, List.set_cons_succ, List.set_cons_zero, r123]; clear r123
       go_wp2_with fail
       exact ⟨rfl, _, rfl, HTT.out _ _ rfl oR⟩
      ·intro x wx ox hN TT HTT; have r130 : x 51 = (.pointer (some ⟨bB, 2, none⟩)) := hN.1 rfl; have r123 : x 44 = (.bool false) := hN.2.1 rfl; clear hN; unfold StepTo; simp only [putAll, Act.put, List.setIfInBounds_toArray, List.set_cons_succ, List.set_cons_zero, r130, r123]; clear r130 r123; obtain ⟨n1, n2, m0, m1, m2, m3, m4, m5, m6, m7, m8, m9, m10, m11, m12, m13, m14, m15, m16, m17, m18, m19⟩ := HX.out wx ox
       go_wp2_with fail
       exact ⟨rfl, _, rfl, HTT.out _ _ rfl oR⟩
      ·intro x wx ox hN TT HTT; have r123 : x 44 = (.bool false) := hN.1 rfl; clear hN; unfold StepTo; simp only [putAll, Act.put, List.setIfInBounds_toArray, List.set_cons_succ, List.set_cons_zero, r123]; clear r123
       go_wp2_with fail
       exact ⟨rfl, _, rfl, HTT.out _ _ rfl oR⟩
      ·intro x wx ox hN TT HTT; have r131 : x 52 = (.slice (some ⟨gd', od', none⟩) LV cv') := hN.1 rfl; have r132 : x 53 = (.int .i64 (j : Int)) := hN.2.1 rfl; have r123 : x 44 = (.bool false) := hN.2.2.1 rfl; clear hN; unfold StepTo; simp only [putAll, Act.put, List.setIfInBounds_toArray, List.set_cons_succ, List.set_cons_zero, r131, r132, r123]; clear r131 r132 r123
       go_wp2_with fail
       exact ⟨rfl, _, rfl, HTT.out _ _ rfl oR⟩
      ·intro x wx ox hN TT HTT; have r133 : x 54 = (.pointer (some ⟨gd', od' + j * 10, none⟩)) := hN.1 rfl; have r123 : x 44 = (.bool false) := hN.2.1 rfl; clear hN; unfold StepTo; simp only [putAll, Act.put, List.setIfInBounds_toArray, List.set_cons_succ, List.set_cons_zero, r133, r123]; clear r133 r123
       go_wp2_with fail
       exact ⟨rfl, _, rfl, HTT.out _ _ rfl oR⟩
      ·intro x wx ox hN TT HTT; have r134 : x 55 = (.pointer (some ⟨gd', od' + j * 10 + 1, none⟩)) := hN.1 rfl; have r123 : x 44 = (.bool false) := hN.2.1 rfl; clear hN; unfold StepTo; simp only [putAll, Act.put, List.setIfInBounds_toArray, List.set_cons_succ, List.set_cons_zero, r134, r123]; clear r134 r123; obtain ⟨n1, n2, m0, m1, m2, m3, m4, m5, m6, m7, m8, m9, m10, m11, m12, m13, m14, m15, m16, m17, m18, m19⟩ := HX.out wx ox
       go_wp2_with fail
       exact ⟨rfl, _, rfl, HTT.out _ _ rfl oR⟩
      ·intro x wx ox hN TT HTT; have r129 : x 50 = (.agg #[.string ⟨s1.toArray⟩, .slice a1 m1 c1, .bool b1]) := hN.1 rfl; have r135 : x 56 = (.agg #[.string ⟨s2.toArray⟩, .slice a2 m2 c2', .bool b2]) := hN.2.1 rfl; have r123 : x 44 = (.bool false) := hN.2.2.1 rfl; clear hN; unfold StepTo; simp only [putAll, Act.put, List.setIfInBounds_toArray, List.set_cons_succ, List.set_cons_zero, r129, r135, r123]; clear r129 r135 r123; have ht := HRECT.out wx ox; have HT := hid ht; clear ht
       go_wp2_with fail
       refine HT.out.mono ?_
       rintro e w6 ⟨rfl, o6⟩; have O6 := hid o6; clear o6
       go_wp2_with fail
       exact ⟨rfl, _, rfl, HTT.out _ _ rfl (O6.out)⟩
      ·intro x wx ox hN TT HTT; have r136 : x 57 = (.bool RT) := hN.1 rfl; have r123 : x 44 = (.bool false) := hN.2.1 rfl; clear hN; unfold StepTo; simp only [putAll, Act.put, List.setIfInBounds_toArray, List.set_cons_succ, List.set_cons_zero, r136, r123]; clear r136 r123
       go_wp2_with fail
       exact ⟨rfl, _, rfl, HTT.out _ _ rfl oR⟩
      intro xz wxz oxz hN; have r79 : xz 0 = (.pointer (some ⟨bA, 2, none⟩)) := hN.1; have r80 : xz 1 = (.slice (some ⟨gd, od, none⟩) LV cv) := hN.2.1; have r81 : xz 2 = (.int .i64 (j : Int)) := hN.2.2.1; have r82 : xz 3 = (.pointer (some ⟨gd, od + j * 10, none⟩)) := hN.2.2.2.1; have r83 : xz 4 = (.pointer (some ⟨gd, od + j * 10, none⟩)) := hN.2.2.2.2.1; have r84 : xz 5 = (.string ⟨dn.toArray⟩) := hN.2.2.2.2.2.1; have r85 : xz 6 = (.pointer (some ⟨bB, 2, none⟩)) := hN.2.2.2.2.2.2.1; have r86 : xz 7 = (.slice (some ⟨gd', od', none⟩) LV cv') := hN.2.2.2.2.2.2.2.1; have r87 : xz 8 = (.int .i64 (j : Int)) := hN.2.2.2.2.2.2.2.2.1; have r88 : xz 9 = (.pointer (some ⟨gd', od' + j * 10, none⟩)) := hN.2.2.2.2.2.2.2.2.2.1; have r89 : xz 10 = (.pointer (some ⟨gd', od' + j * 10, none⟩)) := hN.2.2.2.2.2.2.2.2.2.2.1; have r90 : xz 11 = (.string ⟨dn.toArray⟩) := hN.2.2.2.2.2.2.2.2.2.2.2.1; have r91 : xz 12 = (.bool false) := hN.2.2.2.2.2.2.2.2.2.2.2.2.1; have r92 : xz 13 = (.bool false) := hN.2.2.2.2.2.2.2.2.2.2.2.2.2.1; have r93 : xz 14 = (.pointer (some ⟨bA, 2, none⟩)) := hN.2.2.2.2.2.2.2.2.2.2.2.2.2.2.1; have r94 : xz 15 = (.slice (some ⟨gd, od, none⟩) LV cv) := hN.2.2.2.2.2.2.2.2.2.2.2.2.2.2.2.1; have r95 : xz 16 = (.int .i64 (j : Int)) := hN.2.2.2.2.2.2.2.2.2.2.2.2.2.2.2.2.1; have r96 : xz 17 = (.pointer (some ⟨gd, od + j * 10, none⟩)) := hN.2.2.2.2.2.2.2.2.2.2.2.2.2.2.2.2.2.1; have r97 : xz 18 = (.pointer (some ⟨gd, od + j * 10 + 4, none⟩)) := hN.2.2.2.2.2.2.2.2.2.2.2.2.2.2.2.2.2.2.1; have r98 : xz 19 = (.bool dh) := hN.2.2.2.2.2.2.2.2.2.2.2.2.2.2.2.2.2.2.2.1; have r99 : xz 20 = (.pointer (some ⟨bB, 2, none⟩)) := hN.2.2.2.2.2.2.2.2.2.2.2.2.2.2.2.2.2.2.2.2.1; have r100 : xz 21 = (.slice (some ⟨gd', od', none⟩) LV cv') := hN.2.2.2.2.2.2.2.2.2.2.2.2.2.2.2.2.2.2.2.2.2.1; have r101 : xz 22 = (.int .i64 (j : Int)) := hN.2.2.2.2.2.2.2.2.2.2.2.2.2.2.2.2.2.2.2.2.2.2.1
      have r102 : xz 23 = (.pointer (some ⟨gd', od' + j * 10, none⟩)) := hN.2.2.2.2.2.2.2.2.2.2.2.2.2.2.2.2.2.2.2.2.2.2.2.1; have r103 : xz 24 = (.pointer (some ⟨gd', od' + j * 10 + 4, none⟩)) := hN.2.2.2.2.2.2.2.2.2.2.2.2.2.2.2.2.2.2.2.2.2.2.2.2.1; have r104 : xz 25 = (.bool dh) := hN.2.2.2.2.2.2.2.2.2.2.2.2.2.2.2.2.2.2.2.2.2.2.2.2.2.1; have r105 : xz 26 = (.bool false) := hN.2.2.2.2.2.2.2.2.2.2.2.2.2.2.2.2.2.2.2.2.2.2.2.2.2.2.1; have r106 : xz 27 = (.bool false) := hN.2.2.2.2.2.2.2.2.2.2.2.2.2.2.2.2.2.2.2.2.2.2.2.2.2.2.2.1; have r107 : xz 28 = (.bool false) := hN.2.2.2.2.2.2.2.2.2.2.2.2.2.2.2.2.2.2.2.2.2.2.2.2.2.2.2.2.1; have r108 : xz 29 = (.pointer (some ⟨bA, 2, none⟩)) := hN.2.2.2.2.2.2.2.2.2.2.2.2.2.2.2.2.2.2.2.2.2.2.2.2.2.2.2.2.2.1; have r109 : xz 30 = (.slice (some ⟨gd, od, none⟩) LV cv) := hN.2.2.2.2.2.2.2.2.2.2.2.2.2.2.2.2.2.2.2.2.2.2.2.2.2.2.2.2.2.2.1; have r110 : xz 31 = (.int .i64 (j : Int)) := hN.2.2.2.2.2.2.2.2.2.2.2.2.2.2.2.2.2.2.2.2.2.2.2.2.2.2.2.2.2.2.2.1; have r111 : xz 32 = (.pointer (some ⟨gd, od + j * 10, none⟩)) := hN.2.2.2.2.2.2.2.2.2.2.2.2.2.2.2.2.2.2.2.2.2.2.2.2.2.2.2.2.2.2.2.2.1; have r112 : xz 33 = (.pointer (some ⟨gd, od + j * 10 + 5, none⟩)) := hN.2.2.2.2.2.2.2.2.2.2.2.2.2.2.2.2.2.2.2.2.2.2.2.2.2.2.2.2.2.2.2.2.2.1; have r113 : xz 34 = (.agg #[.int .u8 (vk : Int), .int .i64 vn, .string ⟨vs.toArray⟩, .slice va vl vc, .slice va2 vl2 vc2]) := hN.2.2.2.2.2.2.2.2.2.2.2.2.2.2.2.2.2.2.2.2.2.2.2.2.2.2.2.2.2.2.2.2.2.2.1; have r114 : xz 35 = (.pointer (some ⟨bB, 2, none⟩)) := hN.2.2.2.2.2.2.2.2.2.2.2.2.2.2.2.2.2.2.2.2.2.2.2.2.2.2.2.2.2.2.2.2.2.2.2.1; have r115 : xz 36 = (.slice (some ⟨gd', od', none⟩) LV cv') := hN.2.2.2.2.2.2.2.2.2.2.2.2.2.2.2.2.2.2.2.2.2.2.2.2.2.2.2.2.2.2.2.2.2.2.2.2.1; have r116 : xz 37 = (.int .i64 (j : Int)) := hN.2.2.2.2.2.2.2.2.2.2.2.2.2.2.2.2.2.2.2.2.2.2.2.2.2.2.2.2.2.2.2.2.2.2.2.2.2.1
      have r117 : xz 38 = (.pointer (some ⟨gd', od' + j * 10, none⟩)) := hN.2.2.2.2.2.2.2.2.2.2.2.2.2.2.2.2.2.2.2.2.2.2.2.2.2.2.2.2.2.2.2.2.2.2.2.2.2.2.1; have r118 : xz 39 = (.pointer (some ⟨gd', od' + j * 10 + 5, none⟩)) := hN.2.2.2.2.2.2.2.2.2.2.2.2.2.2.2.2.2.2.2.2.2.2.2.2.2.2.2.2.2.2.2.2.2.2.2.2.2.2.2.1; have r119 : xz 40 = (.agg #[.int .u8 (uk : Int), .int .i64 un, .string ⟨us.toArray⟩, .slice ua ul uc, .slice ua2 ul2 uc2]) := hN.2.2.2.2.2.2.2.2.2.2.2.2.2.2.2.2.2.2.2.2.2.2.2.2.2.2.2.2.2.2.2.2.2.2.2.2.2.2.2.2.1; have r120 : xz 41 = (.bool true) := hN.2.2.2.2.2.2.2.2.2.2.2.2.2.2.2.2.2.2.2.2.2.2.2.2.2.2.2.2.2.2.2.2.2.2.2.2.2.2.2.2.2.1; have r121 : xz 42 = (.bool false) := hN.2.2.2.2.2.2.2.2.2.2.2.2.2.2.2.2.2.2.2.2.2.2.2.2.2.2.2.2.2.2.2.2.2.2.2.2.2.2.2.2.2.2.1; have r122 : xz 43 = (.bool false) := hN.2.2.2.2.2.2.2.2.2.2.2.2.2.2.2.2.2.2.2.2.2.2.2.2.2.2.2.2.2.2.2.2.2.2.2.2.2.2.2.2.2.2.2.1; have r123 : xz 44 = (.bool false) := hN.2.2.2.2.2.2.2.2.2.2.2.2.2.2.2.2.2.2.2.2.2.2.2.2.2.2.2.2.2.2.2.2.2.2.2.2.2.2.2.2.2.2.2.2.1; have r124 : xz 45 = (.pointer (some ⟨bA, 2, none⟩)) := hN.2.2.2.2.2.2.2.2.2.2.2.2.2.2.2.2.2.2.2.2.2.2.2.2.2.2.2.2.2.2.2.2.2.2.2.2.2.2.2.2.2.2.2.2.2.1; have r125 : xz 46 = (.slice (some ⟨gd, od, none⟩) LV cv) := hN.2.2.2.2.2.2.2.2.2.2.2.2.2.2.2.2.2.2.2.2.2.2.2.2.2.2.2.2.2.2.2.2.2.2.2.2.2.2.2.2.2.2.2.2.2.2.1; have r126 : xz 47 = (.int .i64 (j : Int)) := hN.2.2.2.2.2.2.2.2.2.2.2.2.2.2.2.2.2.2.2.2.2.2.2.2.2.2.2.2.2.2.2.2.2.2.2.2.2.2.2.2.2.2.2.2.2.2.2.1; have r127 : xz 48 = (.pointer (some ⟨gd, od + j * 10, none⟩)) := hN.2.2.2.2.2.2.2.2.2.2.2.2.2.2.2.2.2.2.2.2.2.2.2.2.2.2.2.2.2.2.2.2.2.2.2.2.2.2.2.2.2.2.2.2.2.2.2.2.1; have r128 : xz 49 = (.pointer (some ⟨gd, od + j * 10 + 1, none⟩)) := hN.2.2.2.2.2.2.2.2.2.2.2.2.2.2.2.2.2.2.2.2.2.2.2.2.2.2.2.2.2.2.2.2.2.2.2.2.2.2.2.2.2.2.2.2.2.2.2.2.2.1
      have r129 : xz 50 = (.agg #[.string ⟨s1.toArray⟩, .slice a1 m1 c1, .bool b1]) := hN.2.2.2.2.2.2.2.2.2.2.2.2.2.2.2.2.2.2.2.2.2.2.2.2.2.2.2.2.2.2.2.2.2.2.2.2.2.2.2.2.2.2.2.2.2.2.2.2.2.2.1; have r130 : xz 51 = (.pointer (some ⟨bB, 2, none⟩)) := hN.2.2.2.2.2.2.2.2.2.2.2.2.2.2.2.2.2.2.2.2.2.2.2.2.2.2.2.2.2.2.2.2.2.2.2.2.2.2.2.2.2.2.2.2.2.2.2.2.2.2.2.1; have r131 : xz 52 = (.slice (some ⟨gd', od', none⟩) LV cv') := hN.2.2.2.2.2.2.2.2.2.2.2.2.2.2.2.2.2.2.2.2.2.2.2.2.2.2.2.2.2.2.2.2.2.2.2.2.2.2.2.2.2.2.2.2.2.2.2.2.2.2.2.2.1; have r132 : xz 53 = (.int .i64 (j : Int)) := hN.2.2.2.2.2.2.2.2.2.2.2.2.2.2.2.2.2.2.2.2.2.2.2.2.2.2.2.2.2.2.2.2.2.2.2.2.2.2.2.2.2.2.2.2.2.2.2.2.2.2.2.2.2.1; have r133 : xz 54 = (.pointer (some ⟨gd', od' + j * 10, none⟩)) := hN.2.2.2.2.2.2.2.2.2.2.2.2.2.2.2.2.2.2.2.2.2.2.2.2.2.2.2.2.2.2.2.2.2.2.2.2.2.2.2.2.2.2.2.2.2.2.2.2.2.2.2.2.2.2.1; have r134 : xz 55 = (.pointer (some ⟨gd', od' + j * 10 + 1, none⟩)) := hN.2.2.2.2.2.2.2.2.2.2.2.2.2.2.2.2.2.2.2.2.2.2.2.2.2.2.2.2.2.2.2.2.2.2.2.2.2.2.2.2.2.2.2.2.2.2.2.2.2.2.2.2.2.2.2.1; have r135 : xz 56 = (.agg #[.string ⟨s2.toArray⟩, .slice a2 m2 c2', .bool b2]) := hN.2.2.2.2.2.2.2.2.2.2.2.2.2.2.2.2.2.2.2.2.2.2.2.2.2.2.2.2.2.2.2.2.2.2.2.2.2.2.2.2.2.2.2.2.2.2.2.2.2.2.2.2.2.2.2.2.1; have r136 : xz 57 = (.bool RT) := hN.2.2.2.2.2.2.2.2.2.2.2.2.2.2.2.2.2.2.2.2.2.2.2.2.2.2.2.2.2.2.2.2.2.2.2.2.2.2.2.2.2.2.2.2.2.2.2.2.2.2.2.2.2.2.2.2.2.1; have r137 : xz 58 = (.bool (!RT)) := hN.2.2.2.2.2.2.2.2.2.2.2.2.2.2.2.2.2.2.2.2.2.2.2.2.2.2.2.2.2.2.2.2.2.2.2.2.2.2.2.2.2.2.2.2.2.2.2.2.2.2.2.2.2.2.2.2.2.2.1; clear hN
      simp only [putAll, Act.put, List.setIfInBounds_toArray, List.set_cons_succ, List.set_cons_zero, r79, r80, r81, r82, r83, r84, r85, r86, r87, r88, r89, r90, r91, r92, r93, r94, r95, r96, r97, r98, r99, r100, r101, r102, r103, r104, r105, r106, r107, r108, r109, r110, r111, r112, r113, r114, r115, r116, r117, r118, r119, r120, r121, r122, r123, r124, r125, r126, r127, r128, r129, r130, r131, r132, r133, r134, r135, r136, r137]; clear r79 r80 r81 r82 r83 r84 r85 r86 r87 r88 r89 r90 r91 r92 r93 r94 r95 r96 r97 r98 r99 r100 r101 r102 r103 r104 r105 r106 r107 r108 r109 r110 r111 r112 r113 r114 r115 r116 r117 r118 r119 r120 r121 r122 r123 r124 r125 r126 r127 r128 r129 r130 r131 r132 r133 r134 r135 r136 r137; have OZ := hid (HP.out.trans ((Only.refl _ wr).drew.trans oxz)); clear oxz
      cases RT with
      | false =>
       have hRf : R = false := HNR.out (by
        cases R1 with
        | false => rfl
        | true => exact absurd (HALL.out.1 rfl) (fun h => by cases h.2.2.2))
       subst hRf
       go_wp2_with fail
       go_ret
       exact ⟨rfl, HOB.out.trans OZ.out⟩
      | true =>
       have HNX2 := hid (HNX.out (HALL.out.2 (by simp)))
       go_wp2_with fail
       go_roundw
       case rel => exact ⟨j + 1, by simp [go_sem], by omega, hid ⟨OZ.out, HNX2.out⟩⟩
       case measure => simp [intOf]; omega
    ·have hke : j = LV := by omega
     subst hke; have t4 : decide ((j : Int) < (j : Int)) = false := by simp
     go_wp2_with fail
     clear c2 d2
     go_roundw
     case rel => exact ⟨i + 1, by simp, by omega, hid ⟨HZB2.out.trans HP.out, HNS.out (take_all HTJ.out HLV.out HLV2.out)⟩⟩
     case measure => simp [intOf]; omega
  ·have hke : i = L := by omega
   subst hke; have t3 : decide ((i : Int) < (i : Int)) = false := by simp
   go_wp2_with fail
   clear z0 z1 y0 y1; have HOP := hid (take_all HTK.out HL.out HL2.out); clear HTK
   go_loopw [9] (fun v wr => ∃ i : Nat, v = .int .i64 (i : Int) ∧ i ≤ M ∧ Hid (Only (fun _ => False) wz wr ∧ d.frags.take i = e.frags.take i)) (fun v _ => M - (intOf v).toNat)
   case atStart => exact ⟨0, by simp, by omega, hid ⟨HO.out, rfl⟩⟩
   case round =>
    clear HO; obtain ⟨j, rfl, hj, HPT⟩ := hrel; have HO := hid HPT.out.1; have HTJ := hid HPT.out.2; clear HPT; obtain ⟨z0, z1, y0, y1⟩ := HZ.out; clear z0 y0; have z1 := keepc HO.out z1; have y1 := keepc HO.out y1
    by_cases hlt : j < M
    ·as_aux_lemma =>
     have t4 : decide ((j : Int) < (M : Int)) = true := by simpa using hlt
     have hj0 : (0 : Int) ≤ (j : Int) := by omega
     have hj1 : (j : Int) < (M : Int) := by omega
     have hjl : j < d.frags.length := by rw [HM.out]; exact hlt
     have hjm : j < e.frags.length := by rw [HM2.out]; exact hlt
     obtain ⟨R1, hR1⟩ := sm_ex d.frags[j] e.frags[j]; obtain ⟨RS, hRS⟩ := sm_ex d.frags[j].sub e.frags[j].sub; have HNX := hid (fun e : R1 = true => take_snoc HTJ.out hjl hjm (hR1.1 e))
     have HNR := hid (show R1 = false → R = false from fun e => by
      have h1 := get_ne hjl hjm (fun h => by have := hR1.2 h; rw [e] at this; cases this)
      cases R with
      | false => rfl
      | true => exact absurd (HR.out.1 rfl).2 h1)
     have hall : R1 = true ↔ (d.frags[j].name = e.frags[j].name ∧ d.frags[j].on_ = e.frags[j].on_ ∧ RS = true) := by
      rw [hR1, hRS]; exact ⟨fun e => by rw [e]; exact ⟨rfl, rfl, rfl⟩, fun ⟨e1, e2, e3⟩ => fr_ext e1 e2 e3⟩
     obtain ⟨g, o, xs, rfl, -, q1, q2⟩ := HF.out j hjl; obtain ⟨g', o', xs', rfl, -, q1', q2'⟩ := HF'.out j hjm; obtain ⟨sv, rfl, hs⟩ := fr_cells q2; obtain ⟨sv', rfl, hs'⟩ := fr_cells q2'; have hrec := fun (wx : World) (ox : Only (fun _ => False) w wx) => sameSet_any _ _ RS hRS G G' wx _ _ (CellAt.only ox (fun _ _ h => h) _ _ hs) (CellAt.only ox (fun _ _ h => h) _ _ hs')
     obtain ⟨as_, cs_, rfl, -, -, -⟩ := rows_at hs; obtain ⟨as', cs', rfl, -, -, -⟩ := rows_at hs'; obtain ⟨e0, e1, e2⟩ := cells3_of q1; obtain ⟨f0, f1, f2⟩ := cells3_of q1'; clear hR1 hRS
     generalize d.frags[j].name = dn at *
     generalize d.frags[j].on_ = dno at *
     generalize d.frags[j].sub.length = LX at *
     generalize e.frags[j].name = dn' at *
     generalize e.frags[j].on_ = dno' at *
     generalize e.frags[j].sub.length = LX' at *
     have HALL := hid hall; clear hall
     by_cases hnm : dn = dn' ∧ dno = dno'
     rotate_left
     ·have e0 := keepc (HOZ.out.trans HO.out) e0; have f0 := keepc (HOZ.out.trans HO.out) f0; have e1 := keepc (HOZ.out.trans HO.out) e1; have f1 := keepc (HOZ.out.trans HO.out) f1
      have hRf : R = false := HNR.out (by
       cases R1 with
       | false => rfl
       | true => exact absurd (HALL.out.1 rfl) (fun h => hnm ⟨h.1, h.2.1⟩))
      subst hRf; clear hrec q1 q1' q2 q2' hs hs' e2 f2 HNX HNR HTJ hjl hjm
      go_upto_region 18 with (fail)
      by_cases g1 : dn = dn'
      ·subst g1; have g2 : dno ≠ dno' := fun h => hnm ⟨rfl, h⟩
       have z1a : (dno == dno') = false := by simpa using g2
       have z1b : (dno != dno') = true := by simpa using g2
       clear g2; clear hnm
       go_quiet (fail)
       clear e0 f0 e1 f1 z1 y1
       go_wp2_with fail
       go_ret
       exact ⟨rfl, HOZ.out.trans (HO.out.trans ((Only.refl _ wr).drewN nq))⟩
      ·have z1a : (dn == dn') = false := by simpa using g1
       have z1b : (dn != dn') = true := by simpa using g1
       clear hnm
       go_quiet (fail)
       clear e0 f0 e1 f1 z1 y1
       go_wp2_with fail
       go_ret
       exact ⟨rfl, HOZ.out.trans (HO.out.trans ((Only.refl _ wr).drewN nq))⟩
     obtain ⟨rfl, rfl⟩ := hnm; have oww : Only (fun _ => False) w wr := HOZ.out.trans HO.out; have HX := hid (fun (wx : World) (ox : Only (fun _ => False) wr.drew wx) => have o := (Only.refl _ wr).drew.trans ox; have ow := oww.trans o; And.intro (keepc o z1) (And.intro (keepc o y1) (And.intro (keepc ow e0) (And.intro (keepc ow e1) (And.intro (keepc ow e2) (And.intro (keepc ow f0) (And.intro (keepc ow f1) (keepc ow f2)))))))); have HREC := hid (fun (wx : World) (ox : Only (fun _ => False) wr.drew wx) => hrec wx (oww.trans ((Only.refl _ wr).drew.trans ox))); clear hrec hjl hjm q1 q1' q2 q2' hs hs' e0 e1 e2 f0 f1 f2 oww
     go_upto_region 18 with (fail)
     clear z1 y1
     refine wp_region_steps 43 (by kernel_rfl) rfl (by kernel_rfl) [some 146, some 147, some 148, some 149, some 150, some 151, some 152, some 153, some 154, some 155, some 156, some 157, some 158, some 159, some 160, some 161, some 162, some 163, some 164, some 165, some 166, some 167, some 168, some 169, some 170, some 171, some 172, some 173, some 174, some 175, some 176, some 177, some 178, some 179, some 180, some 181, some 182, some 183, some 184, some 185, some 186, some 187, some 188] rfl rfl (fun _ => False) [(fun v _ => v = (.pointer (some ⟨zA, 1, none⟩))), (fun v _ => v = (.slice (some ⟨g, o, none⟩) M r)), (fun v _ => v = (.int .i64 (j : Int))), (fun v _ => v = (.pointer (some ⟨g, o + j * 3, none⟩))), (fun v _ => v = (.pointer (some ⟨g, o + j * 3, none⟩))), (fun v _ => v = (.string ⟨dn.toArray⟩)), (fun v _ => v = (.pointer (some ⟨zB, 1, none⟩))), (fun v _ => v = (.slice (some ⟨g', o', none⟩) M r')), (fun v _ => v = (.int .i64 (j : Int))), (fun v _ => v = (.pointer (some ⟨g', o' + j * 3, none⟩))), (fun v _ => v = (.pointer (some ⟨g', o' + j * 3, none⟩))), (fun v _ => v = (.string ⟨dn.toArray⟩)), (fun v _ => v = (.bool false)), (fun v _ => v = (.bool false)), (fun v _ => v = (.pointer (some ⟨zA, 1, none⟩))), (fun v _ => v = (.slice (some ⟨g, o, none⟩) M r)), (fun v _ => v = (.int .i64 (j : Int))), (fun v _ => v = (.pointer (some ⟨g, o + j * 3, none⟩))), (fun v _ => v = (.pointer (some ⟨g, o + j * 3 + 1, none⟩))), (fun v _ => v = (.string ⟨dno.toArray⟩)), (fun v _ => v = (.pointer (some ⟨zB, 1, none⟩))), (fun v _ => v = (.slice (some ⟨g', o', none⟩) M r')), (fun v _ => v = (.int .i64 (j : Int))), (fun v _ => v = (.pointer (some ⟨g', o' + j * 3, none⟩))), (fun v _ => v = (.pointer (some ⟨g', o' + j * 3 + 1, none⟩))), (fun v _ => v = (.string ⟨dno.toArray⟩)), (fun v _ => v = (.bool false)), (fun v _ => v = (.bool false)), (fun v _ => v = (.bool false)), (fun v _ => v = (.pointer (some ⟨zA, 1, none⟩))), (fun v _ => v = (.slice (some ⟨g, o, none⟩) M r)), (fun v _ => v = (.int .i64 (j : Int))), (fun v _ => v = (.pointer (some ⟨g, o + j * 3, none⟩))), (fun v _ => v = (.pointer (some ⟨g, o + j * 3 + 2, none⟩))), (fun v _ => v = (.slice as_ LX cs_)), (fun v _ => v = (.pointer (some ⟨zB, 1, none⟩))), (fun v _ => v = (.slice (some ⟨g', o', none⟩) M r')), (fun v _ => v = (.int .i64 (j : Int))), (fun v _ => v = (.pointer (some ⟨g', o' + j * 3, none⟩))), (fun v _ => v = (.pointer (some ⟨g', o' + j * 3 + 2, none⟩))), (fun v _ => v = (.slice as' LX' cs')), (fun v _ => v = (.bool RS)), (fun v _ => v = (.bool (!RS)))] rfl ⟨?_, ?_, ?_, ?_, ?_, ?_, ?_, ?_, ?_, ?_, ?_, ?_, ?_, ?_, ?_, ?_, ?_, ?_, ?_, ?_, ?_, ?_, ?_, ?_, ?_, ?_, ?_, ?_, ?_, ?_, ?_, ?_, ?_, ?_, ?_, ?_, ?_, ?_, ?_, ?_, ?_, ?_, ?_, trivial⟩ _ rfl ⟨?_, ?_, ?_, ?_, ?_, ?_, ?_, ?_, ?_, ?_, ?_, ?_, ?_, ?_, ?_, ?_, ?_, ?_, ?_, ?_, ?_, ?_, ?_, ?_, ?_, ?_, ?_, ?_, ?_, ?_, ?_, ?_, ?_, ?_, ?_, ?_, ?_, ?_, ?_, ?_, ?_, ?_, ?_, trivial⟩ ?_
     iterate 43 exact Stable.is _ _
     ·intro x wx ox hN TT HTT; clear hN; unfold StepTo; simp only [putAll, Act.put, List.setIfInBounds_toArray, List.set_cons_succ, List.set_cons_zero]
      go_wp2_with fail
      exact ⟨rfl, _, rfl, HTT.out _ _ rfl oR⟩
     ·intro x wx ox hN TT HTT; have r146 : x 0 = (.pointer (some ⟨zA, 1, none⟩)) := hN.1 rfl; clear hN; unfold StepTo; simp only [putAll, Act.put, List.setIfInBounds_toArray, List.set_cons_succ, List.set_cons_zero, r146]; clear r146; obtain ⟨m1, m2, m3, m4, m5, m6, m7, m8⟩ := HX.out wx ox
      go_wp2_with fail
      exact ⟨rfl, _, rfl, HTT.out _ _ rfl oR⟩
     ·intro x wx ox hN TT HTT; clear hN; unfold StepTo; simp only [putAll, Act.put, List.setIfInBounds_toArray, List.set_cons_succ, List.set_cons_zero]
      go_wp2_with fail
      exact ⟨rfl, _, rfl, HTT.out _ _ rfl oR⟩
     ·intro x wx ox hN TT HTT; have r147 : x 1 = (.slice (some ⟨g, o, none⟩) M r) := hN.1 rfl; have r148 : x 2 = (.int .i64 (j : Int)) := hN.2.1 rfl; clear hN; unfold StepTo; simp only [putAll, Act.put, List.setIfInBounds_toArray, List.set_cons_succ, List.set_cons_zero, r147, r148]; clear r147 r148
      go_wp2_with fail
      exact ⟨rfl, _, rfl, HTT.out _ _ rfl oR⟩
     ·intro x wx ox hN TT HTT; have r149 : x 3 = (.pointer (some ⟨g, o + j * 3, none⟩)) := hN.1 rfl; clear hN; unfold StepTo; simp only [putAll, Act.put, List.setIfInBounds_toArray, List.set_cons_succ, List.set_cons_zero, r149]; clear r149
      go_wp2_with fail
      exact ⟨rfl, _, rfl, HTT.out _ _ rfl oR⟩
     ·intro x wx ox hN TT HTT; have r150 : x 4 = (.pointer (some ⟨g, o + j * 3, none⟩)) := hN.1 rfl; clear hN; unfold StepTo; simp only [putAll, Act.put, List.setIfInBounds_toArray, List.set_cons_succ, List.set_cons_zero, r150]; clear r150; obtain ⟨m1, m2, m3, m4, m5, m6, m7, m8⟩ := HX.out wx ox
      go_wp2_with fail
      exact ⟨rfl, _, rfl, HTT.out _ _ rfl oR⟩
     ·intro x wx ox hN TT HTT; clear hN; unfold StepTo; simp only [putAll, Act.put, List.setIfInBounds_toArray, List.set_cons_succ, List.set_cons_zero]
      go_wp2_with fail
      exact ⟨rfl, _, rfl, HTT.out _ _ rfl oR⟩
     ·intro x wx ox hN TT HTT; have r152 : x 6 = (.pointer (some ⟨zB, 1, none⟩)) := hN.1 rfl; clear hN; unfold StepTo; simp only [putAll, Act.put, List.setIfInBounds_toArray, List.set_cons_succ, List.set_cons_zero, r152]; clear r152; obtain ⟨m1, m2, m3, m4, m5, m6, m7, m8⟩ := HX.out wx ox
      go_wp2_with fail
      exact ⟨rfl, _, rfl, HTT.out _ _ rfl oR⟩
     ·intro x wx ox hN TT HTT; clear hN; unfold StepTo; simp only [putAll, Act.put, List.setIfInBounds_toArray, List.set_cons_succ, List.set_cons_zero]
      go_wp2_with fail
      exact ⟨rfl, _, rfl, HTT.out _ _ rfl oR⟩
     ·intro x wx ox hN TT HTT; have r153 : x 7 = (.slice (some ⟨g', o', none⟩) M r') := hN.1 rfl; have r154 : x 8 = (.int .i64 (j : Int)) := hN.2.1 rfl; clear hN; unfold StepTo; simp only [putAll, Act.put, List.setIfInBounds_toArray, List.set_cons_succ, List.set_cons_zero, r153, r154]; clear r153 r154
      go_wp2_with fail
      exact ⟨rfl, _, rfl, HTT.out _ _ rfl oR⟩
     ·intro x wx ox hN TT HTT; have r155 : x 9 = (.pointer (some ⟨g', o' + j * 3, none⟩)) := hN.1 rfl; clear hN; unfold StepTo; simp only [putAll, Act.put, List.setIfInBounds_toArray, List.set_cons_succ, List.set_cons_zero, r155]; clear r155
      go_wp2_with fail
      exact ⟨rfl, _, rfl, HTT.out _ _ rfl oR⟩
     ·intro x wx ox hN TT HTT; have r156 : x 10 = (.pointer (some ⟨g', o' + j * 3, none⟩)) := hN.1 rfl; clear hN; unfold StepTo; simp only [putAll, Act.put, List.setIfInBounds_toArray, List.set_cons_succ, List.set_cons_zero, r156]; clear r156; obtain ⟨m1, m2, m3, m4, m5, m6, m7, m8⟩ := HX.out wx ox
      go_wp2_with fail
      exact ⟨rfl, _, rfl, HTT.out _ _ rfl oR⟩
     ·intro x wx ox hN TT HTT; have r151 : x 5 = (.string ⟨dn.toArray⟩) := hN.1 rfl; have r157 : x 11 = (.string ⟨dn.toArray⟩) := hN.2.1 rfl; clear hN; unfold StepTo; simp only [putAll, Act.put, List.setIfInBounds_toArray, List.set_cons_succ, List.set_cons_zero, r151, r157]; clear r151 r157
      go_wp2_with fail
      exact ⟨rfl, _, rfl, HTT.out _ _ rfl oR⟩
     ·intro x wx ox hN TT HTT; have r158 : x 12 = (.bool false) := hN.1 rfl; clear hN; unfold StepTo; simp only [putAll, Act.put, List.setIfInBounds_toArray, List.set_cons_succ, List.set_cons_zero, r158]; clear r158
      go_wp2_with fail
      exact ⟨rfl, _, rfl, HTT.out _ _ rfl oR⟩
     ·intro x wx ox hN TT HTT; have r159 : x 13 = (.bool false) := hN.1 rfl; clear hN; unfold StepTo; simp only [putAll, Act.put, List.setIfInBounds_toArray, List.set_cons_succ, List.set_cons_zero, r159]; clear r159
      go_wp2_with fail
      exact ⟨rfl, _, rfl, HTT.out _ _ rfl oR⟩
     ·intro x wx ox hN TT HTT; have r160 : x 14 = (.pointer (some ⟨zA, 1, none⟩)) := hN.1 rfl; have r159 : x 13 = (.bool false) := hN.2.1 rfl; clear hN; unfold StepTo; simp only [putAll, Act.put, List.setIfInBounds_toArray, List.set_cons_succ, List.set_cons_zero, r160, r159]; clear r160 r159; obtain ⟨m1, m2, m3, m4, m5, m6, m7, m8⟩ := HX.out wx ox
      go_wp2_with fail
      exact ⟨rfl, _, rfl, HTT.out _ _ rfl oR⟩
     ·intro x wx ox hN TT HTT; have r159 : x 13 = (.bool false) := hN.1 rfl; clear hN; unfold StepTo; simp only [putAll, Act.put, List.setIfInBounds_toArray, List.set_cons_succ, List.set_cons_zero, r159]; clear r159
      go_wp2_with fail
      exact ⟨rfl, _, rfl, HTT.out _ _ rfl oR⟩
     ·intro x wx ox hN TT HTT; have r161 : x 15 = (.slice (some ⟨g, o, none⟩) M r) := hN.1 rfl; have r162 : x 16 = (.int .i64 (j : Int)) := hN.2.1 rfl; have r159 : x 13 = (.bool false) := hN.2.2.1 rfl; clear hN; unfold StepTo; simp only [putAll, Act.put, List.setIfInBounds_toArray, List.set_cons_succ, List.set_cons_zero, r161, r162, r159]; clear r161 r162 r159
      go_wp2_with fail
      exact ⟨rfl, _, rfl, HTT.out _ _ rfl oR⟩
     ·intro x wx ox hN TT HTT; have r163 : x 17 = (.pointer (some ⟨g, o + j * 3, none⟩)) := hN.1 rfl; have r159 : x 13 = (.bool false) := hN.2.1 rfl; clear hN; unfold StepTo; simp only [putAll, Act.put, List.setIfInBounds_toArray, List.set_cons_succ, List.set_cons_zero, r163, r159]; clear r163 r159
      go_wp2_with fail
      exact ⟨rfl, _, rfl, HTT.out _ _ rfl oR⟩
     ·intro x wx ox hN TT HTT; have r164 : x 18 = (.pointer (some ⟨g, o + j * 3 + 1, none⟩)) := hN.1 rfl; have r159 : x 13 = (.bool false) := hN.2.1 rfl; clear hN; unfold StepTo; simp only [putAll, Act.put, List.setIfInBounds_toArray, List.set_cons_succ, List.set_cons_zero, r164, r159]; clear r164 r159; obtain ⟨m1, m2, m3, m4, m5, m6, m7, m8⟩ := HX.out wx ox
      go_wp2_with fail
      exact ⟨rfl, _, rfl, HTT.out _ _ rfl oR⟩
     ·intro x wx ox hN TT HTT; have r159 : x 13 = (.bool false) := hN.1 rfl; clear hN; unfold StepTo; simp only [putAll, Act.put, List.setIfInBounds_toArray, List.set_cons_succ, List.set_cons_zero, r159]; clear r159
      go_wp2_with fail
      exact ⟨rfl, _, rfl, HTT.out _ _ rfl oR⟩
     ·intro x wx ox hN TT HTT; have r166 : x 20 = (.pointer (some ⟨zB, 1, none⟩)) := hN.1 rfl; have r159 : x 13 = (.bool false) := hN.2.1 rfl; clear hN; unfold StepTo; simp only [putAll, Act.put, List.setIfInBounds_toArray, List.set_cons_succ, List.set_cons_zero, r166, r159]; clear r166 r159; obtain ⟨m1, m2, m3, m4, m5, m6, m7, m8⟩ := HX.out wx ox
      go_wp2_with fail
      exact ⟨rfl, _, rfl, HTT.out _ _ rfl oR⟩
     ·intro x wx ox hN TT HTT; have r159 : x 13 = (.bool false) := hN.1 rfl; clear hN; unfold StepTo; simp only [putAll, Act.put, List.setIfInBounds_toArray, List.set_cons_succ, List.set_cons_zero, r159]; clear r159
      go_wp2_with fail
      exact ⟨rfl, _, rfl, HTT.out _ _ rfl oR⟩
     ·intro x wx ox hN TT HTT; have r167 : x 21 = (.slice (some ⟨g', o', none⟩) M r') := hN.1 rfl; have r168 : x 22 = (.int .i64 (j : Int)) := hN.2.1 rfl; have r159 : x 13 = (.bool false) := hN.2.2.1 rfl; clear hN; unfold StepTo; simp only [putAll, Act.put, List.setIfInBounds_toArray, List.set_cons_succ, List.set_cons_zero, r167, r168, r159]; clear r167 r168 r159
      go_wp2_with fail
      exact ⟨rfl, _, rfl, HTT.out _ _ rfl oR⟩
     ·intro x wx ox hN TT HTT; have r169 : x 23 = (.pointer (some ⟨g', o' + j * 3, none⟩)) := hN.1 rfl; have r159 : x 13 = (.bool false) := hN.2.1 rfl; clear hN; unfold StepTo; simp only [putAll, Act.put, List.setIfInBounds_toArray, List.set_cons_succ, List.set_cons_zero, r169, r159]; clear r169 r159
      go_wp2_with fail
      exact ⟨rfl, _, rfl, HTT.out _ _ rfl oR⟩
     ·intro x wx ox hN TT HTT; have r170 : x 24 = (.pointer (some ⟨g', o' + j * 3 + 1, none⟩)) := hN.1 rfl; have r159 : x 13 = (.bool false) := hN.2.1 rfl; clear hN; unfold StepTo; simp only [putAll, Act.put, List.setIfInBounds_toArray, List.set_cons_succ, List.set_cons_zero, r170, r159]; clear r170 r159; obtain ⟨m1, m2, m3, m4, m5, m6, m7, m8⟩ := HX.out wx ox
      go_wp2_with fail
      exact ⟨rfl, _, rfl, HTT.out _ _ rfl oR⟩
     ·intro x wx ox hN TT HTT; have r165 : x 19 = (.string ⟨dno.toArray⟩) := hN.1 rfl; have r171 : x 25 = (.string ⟨dno.toArray⟩) := hN.2.1 rfl; have r159 : x 13 = (.bool false) := hN.2.2.1 rfl; clear hN; unfold StepTo; simp only [putAll, Act.put, List.setIfInBounds_toArray, List.set_cons_succ, List.set_cons_zero, r165, r171, r159]; clear r165 r171 r159
      go_wp2_with fail
      exact ⟨rfl, _, rfl, HTT.out _ _ rfl oR⟩
     ·intro x wx ox hN TT HTT; have r159 : x 13 = (.bool false) := hN.1 rfl; have r172 : x 26 = (.bool false) := hN.2.1 rfl; clear hN; unfold StepTo; simp only [putAll, Act.put, List.setIfInBounds_toArray, List.set_cons_succ, List.set_cons_zero, r159, r172]; clear r159 r172
      go_wp2_with fail
      exact ⟨rfl, _, rfl, HTT.out _ _ rfl oR⟩
     ·intro x wx ox hN TT HTT; have r173 : x 27 = (.bool false) := hN.1 rfl; have r159 : x 13 = (.bool false) := hN.2.1 rfl; clear hN; unfold StepTo; simp only [putAll, Act.put, List.setIfInBounds_toArray, List.set_cons_succ, List.set_cons_zero, r173, r159]; clear r173 r159
      go_wp2_with fail
      exact ⟨rfl, _, rfl, HTT.out _ _ rfl oR⟩
     ·intro x wx ox hN TT HTT; have r174 : x 28 = (.bool false) := hN.1 rfl; clear hN; unfold StepTo; simp only [putAll, Act.put, List.setIfInBounds_toArray, List.set_cons_succ, List.set_cons_zero, r174]; clear r174
      go_wp2_with fail
      exact ⟨rfl, _, rfl, HTT.out _ _ rfl oR⟩
     ·intro x wx ox hN TT HTT; have r175 : x 29 = (.pointer (some ⟨zA, 1, none⟩)) := hN.1 rfl; have r174 : x 28 = (.bool false) := hN.2.1 rfl; clear hN; unfold StepTo; simp only [putAll, Act.put, List.setIfInBounds_toArray, List.set_cons_succ, List.set_cons_zero, r175, r174]; clear r175 r174; obtain ⟨m1, m2, m3, m4, m5, m6, m7, m8⟩ := HX.out wx ox
      go_wp2_with fail
      exact ⟨rfl, _, rfl, HTT.out _ _ rfl oR⟩
     ·intro x wx ox hN TT HTT; have r174 : x 28 = (.bool false) := hN.1 rfl; clear hN; unfold StepTo; simp only [putAll, Act.put, List.setIfInBounds_toArray, List.set_cons_succ, List.set_cons_zero, r174]; clear r174
      go_wp2_with fail
      exact ⟨rfl, _, rfl, HTT.out _ _ rfl oR⟩
     ·intro x wx ox hN TT HTT; have r176 : x 30 = (.slice (some ⟨g, o, none⟩) M r) := hN.1 rfl; have r177 : x 31 = (.int .i64 (j : Int)) := hN.2.1 rfl; have r174 : x 28 = (.bool false) := hN.2.2.1 rfl; clear hN; unfold StepTo; simp only [putAll, Act.put, List.setIfInBounds_toArray, List.set_cons_succ, List.set_cons_zero, r176, r177, r174]; clear r176 r177 r174
      go_wp2_with fail
      exact ⟨rfl, _, rfl, HTT.out _ _ rfl oR⟩
     ·intro x wx ox hN TT HTT; have r178 : x 32 = (.pointer (some ⟨g, o + j * 3, none⟩)) := hN.1 rfl; have r174 : x 28 = (.bool false) := hN.2.1 rfl; clear hN; unfold StepTo; simp only [putAll, Act.put, List.setIfInBounds_toArray, List.set_cons_succ, List.set_cons_zero, r178, r174]; clear r178 r174
      go_wp2_with fail
      exact ⟨rfl, _, rfl, HTT.out _ _ rfl oR⟩
     ·intro x wx ox hN TT HTT; have r179 : x 33 = (.pointer (some ⟨g, o + j * 3 + 2, none⟩)) := hN.1 rfl; have r174 : x 28 = (.bool false) := hN.2.1 rfl; clear hN; unfold StepTo; simp only [putAll, Act.put, List.setIfInBounds_toArray, List.set_cons_succ, List.set_cons_zero, r179, r174]; clear r179 r174; obtain ⟨m1, m2, m3, m4, m5, m6, m7, m8⟩ := HX.out wx ox
      go_wp2_with fail
      exact ⟨rfl, _, rfl, HTT.out _ _ rfl oR⟩
     ·intro x wx ox hN TT HTT; have r174 : x 28 = (.bool false) := hN.1 rfl; clear hN; unfold StepTo; simp only [putAll, Act.put, List.setIfInBounds_toArray, List.set_cons_succ, List.set_cons_zero, r174]; clear r174
      go_wp2_with fail
      exact ⟨rfl, _, rfl, HTT.out _ _ rfl oR⟩
     ·intro x wx ox hN TT HTT; have r181 : x 35 = (.pointer (some ⟨zB, 1, none⟩)) := hN.1 rfl; have r174 : x 28 = (.bool false) := hN.2.1 rfl; clear hN; unfold StepTo; simp only [putAll, Act.put, List.setIfInBounds_toArray, List.set_cons_succ, List.set_cons_zero, r181, r174]; clear r181 r174; obtain ⟨m1, m2, m3, m4, m5, m6, m7, m8⟩ := HX.out wx ox
      go_wp2_with fail
      exact ⟨rfl, _, rfl, HTT.out _ _ rfl oR⟩
     ·intro x wx ox hN TT HTT; have r174 : x 28 = (.bool false) := hN.1 rfl; clear hN; unfold StepTo; simp only [putAll, Act.put, List.setIfInBounds_toArray, List.set_cons_succ, List.set_cons_zero, r174]; clear r174
      go_wp2_with fail
      exact ⟨rfl, _, rfl, HTT.out _ _ rfl oR⟩
     ·intro x wx ox hN TT HTT; have r182 : x 36 = (.slice (some ⟨g', o', none⟩) M r') := hN.1 rfl; have r183 : x 37 = (.int .i64 (j : Int)) := hN.2.1 rfl; have r174 : x 28 = (.bool false) := hN.2.2.1 rfl; clear hN; unfold StepTo; simp only [putAll, Act.put, List.setIfInBounds_toArray, List.set_cons_succ, List.set_cons_zero, r182, r183, r174]; clear r182 r183 r174
      go_wp2_with fail
      exact ⟨rfl, _, rfl, HTT.out _ _ rfl oR⟩
     ·intro x wx ox hN TT HTT; have r184 : x 38 = (.pointer (some ⟨g', o' + j * 3, none⟩)) := hN.1 rfl; have r174 : x 28 = (.bool false) := hN.2.1 rfl; clear hN; unfold StepTo; simp only [putAll, Act.put, List.setIfInBounds_toArray, List.set_cons_succ, List.set_cons_zero, r184, r174]; clear r184 r174
      go_wp2_with fail
      exact ⟨rfl, _, rfl, HTT.out _ _ rfl oR⟩
     ·intro x wx ox hN TT HTT; have r185 : x 39 = (.pointer (some ⟨g', o' + j * 3 + 2, none⟩)) := hN.1 rfl; have r174 : x 28 = (.bool false) := hN.2.1 rfl; clear hN; unfold StepTo; simp only [putAll, Act.put, List.setIfInBounds_toArray, List.set_cons_succ, List.set_cons_zero, r185, r174]; clear r185 r174; obtain ⟨m1, m2, m3, m4, m5, m6, m7, m8⟩ := HX.out wx ox
      go_wp2_with fail
      exact ⟨rfl, _, rfl, HTT.out _ _ rfl oR⟩
     ·intro x wx ox hN TT HTT; have r180 : x 34 = (.slice as_ LX cs_) := hN.1 rfl; have r186 : x 40 = (.slice as' LX' cs') := hN.2.1 rfl; have r174 : x 28 = (.bool false) := hN.2.2.1 rfl; clear hN; unfold StepTo; simp only [putAll, Act.put, List.setIfInBounds_toArray, List.set_cons_succ, List.set_cons_zero, r180, r186, r174]; clear r180 r186 r174; have ht := HREC.out wx ox; have HT := hid ht; clear ht
      go_wp2_with fail
      refine HT.out.mono ?_
      rintro e w6 ⟨rfl, o6⟩; have O6 := hid o6; clear o6
      go_wp2_with fail
      exact ⟨rfl, _, rfl, HTT.out _ _ rfl (O6.out)⟩
     ·intro x wx ox hN TT HTT; have r187 : x 41 = (.bool RS) := hN.1 rfl; have r174 : x 28 = (.bool false) := hN.2.1 rfl; clear hN; unfold StepTo; simp only [putAll, Act.put, List.setIfInBounds_toArray, List.set_cons_succ, List.set_cons_zero, r187, r174]; clear r187 r174
      go_wp2_with fail
      exact ⟨rfl, _, rfl, HTT.out _ _ rfl oR⟩
     intro xz wxz oxz hN; have r146 : xz 0 = (.pointer (some ⟨zA, 1, none⟩)) := hN.1; have r147 : xz 1 = (.slice (some ⟨g, o, none⟩) M r) := hN.2.1; have r148 : xz 2 = (.int .i64 (j : Int)) := hN.2.2.1; have r149 : xz 3 = (.pointer (some ⟨g, o + j * 3, none⟩)) := hN.2.2.2.1; have r150 : xz 4 = (.pointer (some ⟨g, o + j * 3, none⟩)) := hN.2.2.2.2.1; have r151 : xz 5 = (.string ⟨dn.toArray⟩) := hN.2.2.2.2.2.1; have r152 : xz 6 = (.pointer (some ⟨zB, 1, none⟩)) := hN.2.2.2.2.2.2.1; have r153 : xz 7 = (.slice (some ⟨g', o', none⟩) M r') := hN.2.2.2.2.2.2.2.1; have r154 : xz 8 = (.int .i64 (j : Int)) := hN.2.2.2.2.2.2.2.2.1; have r155 : xz 9 = (.pointer (some ⟨g', o' + j * 3, none⟩)) := hN.2.2.2.2.2.2.2.2.2.1; have r156 : xz 10 = (.pointer (some ⟨g', o' + j * 3, none⟩)) := hN.2.2.2.2.2.2.2.2.2.2.1; have r157 : xz 11 = (.string ⟨dn.toArray⟩) := hN.2.2.2.2.2.2.2.2.2.2.2.1; have r158 : xz 12 = (.bool false) := hN.2.2.2.2.2.2.2.2.2.2.2.2.1; have r159 : xz 13 = (.bool false) := hN.2.2.2.2.2.2.2.2.2.2.2.2.2.1; have r160 : xz 14 = (.pointer (some ⟨zA, 1, none⟩)) := hN.2.2.2.2.2.2.2.2.2.2.2.2.2.2.1; have r161 : xz 15 = (.slice (some ⟨g, o, none⟩) M r) := hN.2.2.2.2.2.2.2.2.2.2.2.2.2.2.2.1; have r162 : xz 16 = (.int .i64 (j : Int)) := hN.2.2.2.2.2.2.2.2.2.2.2.2.2.2.2.2.1; have r163 : xz 17 = (.pointer (some ⟨g, o + j * 3, none⟩)) := hN.2.2.2.2.2.2.2.2.2.2.2.2.2.2.2.2.2.1; have r164 : xz 18 = (.pointer (some ⟨g, o + j * 3 + 1, none⟩)) := hN.2.2.2.2.2.2.2.2.2.2.2.2.2.2.2.2.2.2.1; have r165 : xz 19 = (.string ⟨dno.toArray⟩) := hN.2.2.2.2.2.2.2.2.2.2.2.2.2.2.2.2.2.2.2.1; have r166 : xz 20 = (.pointer (some ⟨zB, 1, none⟩)) := hN.2.2.2.2.2.2.2.2.2.2.2.2.2.2.2.2.2.2.2.2.1; have r167 : xz 21 = (.slice (some ⟨g', o', none⟩) M r') := hN.2.2.2.2.2.2.2.2.2.2.2.2.2.2.2.2.2.2.2.2.2.1; have r168 : xz 22 = (.int .i64 (j : Int)) := hN.2.2.2.2.2.2.2.2.2.2.2.2.2.2.2.2.2.2.2.2.2.2.1
     have r169 : xz 23 = (.pointer (some ⟨g', o' + j * 3, none⟩)) := hN.2.2.2.2.2.2.2.2.2.2.2.2.2.2.2.2.2.2.2.2.2.2.2.1; have r170 : xz 24 = (.pointer (some ⟨g', o' + j * 3 + 1, none⟩)) := hN.2.2.2.2.2.2.2.2.2.2.2.2.2.2.2.2.2.2.2.2.2.2.2.2.1; have r171 : xz 25 = (.string ⟨dno.toArray⟩) := hN.2.2.2.2.2.2.2.2.2.2.2.2.2.2.2.2.2.2.2.2.2.2.2.2.2.1; have r172 : xz 26 = (.bool false) := hN.2.2.2.2.2.2.2.2.2.2.2.2.2.2.2.2.2.2.2.2.2.2.2.2.2.2.1; have r173 : xz 27 = (.bool false) := hN.2.2.2.2.2.2.2.2.2.2.2.2.2.2.2.2.2.2.2.2.2.2.2.2.2.2.2.1; have r174 : xz 28 = (.bool false) := hN.2.2.2.2.2.2.2.2.2.2.2.2.2.2.2.2.2.2.2.2.2.2.2.2.2.2.2.2.1; have r175 : xz 29 = (.pointer (some ⟨zA, 1, none⟩)) := hN.2.2.2.2.2.2.2.2.2.2.2.2.2.2.2.2.2.2.2.2.2.2.2.2.2.2.2.2.2.1; have r176 : xz 30 = (.slice (some ⟨g, o, none⟩) M r) := hN.2.2.2.2.2.2.2.2.2.2.2.2.2.2.2.2.2.2.2.2.2.2.2.2.2.2.2.2.2.2.1; have r177 : xz 31 = (.int .i64 (j : Int)) := hN.2.2.2.2.2.2.2.2.2.2.2.2.2.2.2.2.2.2.2.2.2.2.2.2.2.2.2.2.2.2.2.1; have r178 : xz 32 = (.pointer (some ⟨g, o + j * 3, none⟩)) := hN.2.2.2.2.2.2.2.2.2.2.2.2.2.2.2.2.2.2.2.2.2.2.2.2.2.2.2.2.2.2.2.2.1; have r179 : xz 33 = (.pointer (some ⟨g, o + j * 3 + 2, none⟩)) := hN.2.2.2.2.2.2.2.2.2.2.2.2.2.2.2.2.2.2.2.2.2.2.2.2.2.2.2.2.2.2.2.2.2.1; have r180 : xz 34 = (.slice as_ LX cs_) := hN.2.2.2.2.2.2.2.2.2.2.2.2.2.2.2.2.2.2.2.2.2.2.2.2.2.2.2.2.2.2.2.2.2.2.1; have r181 : xz 35 = (.pointer (some ⟨zB, 1, none⟩)) := hN.2.2.2.2.2.2.2.2.2.2.2.2.2.2.2.2.2.2.2.2.2.2.2.2.2.2.2.2.2.2.2.2.2.2.2.1; have r182 : xz 36 = (.slice (some ⟨g', o', none⟩) M r') := hN.2.2.2.2.2.2.2.2.2.2.2.2.2.2.2.2.2.2.2.2.2.2.2.2.2.2.2.2.2.2.2.2.2.2.2.2.1; have r183 : xz 37 = (.int .i64 (j : Int)) := hN.2.2.2.2.2.2.2.2.2.2.2.2.2.2.2.2.2.2.2.2.2.2.2.2.2.2.2.2.2.2.2.2.2.2.2.2.2.1; have r184 : xz 38 = (.pointer (some ⟨g', o' + j * 3, none⟩)) := hN.2.2.2.2.2.2.2.2.2.2.2.2.2.2.2.2.2.2.2.2.2.2.2.2.2.2.2.2.2.2.2.2.2.2.2.2.2.2.1
     have r185 : xz 39 = (.pointer (some ⟨g', o' + j * 3 + 2, none⟩)) := hN.2.2.2.2.2.2.2.2.2.2.2.2.2.2.2.2.2.2.2.2.2.2.2.2.2.2.2.2.2.2.2.2.2.2.2.2.2.2.2.1; have r186 : xz 40 = (.slice as' LX' cs') := hN.2.2.2.2.2.2.2.2.2.2.2.2.2.2.2.2.2.2.2.2.2.2.2.2.2.2.2.2.2.2.2.2.2.2.2.2.2.2.2.2.1; have r187 : xz 41 = (.bool RS) := hN.2.2.2.2.2.2.2.2.2.2.2.2.2.2.2.2.2.2.2.2.2.2.2.2.2.2.2.2.2.2.2.2.2.2.2.2.2.2.2.2.2.1; have r188 : xz 42 = (.bool (!RS)) := hN.2.2.2.2.2.2.2.2.2.2.2.2.2.2.2.2.2.2.2.2.2.2.2.2.2.2.2.2.2.2.2.2.2.2.2.2.2.2.2.2.2.2.1; clear hN; simp only [putAll, Act.put, List.setIfInBounds_toArray, List.set_cons_succ, List.set_cons_zero, r146, r147, r148, r149, r150, r151, r152, r153, r154, r155, r156, r157, r158, r159, r160, r161, r162, r163, r164, r165, r166, r167, r168, r169, r170, r171, r172, r173, r174, r175, r176, r177, r178, r179, r180, r181, r182, r183, r184, r185, r186, r187, r188]; clear r146 r147 r148 r149 r150 r151 r152 r153 r154 r155 r156 r157 r158 r159 r160 r161 r162 r163 r164 r165 r166 r167 r168 r169 r170 r171 r172 r173 r174 r175 r176 r177 r178 r179 r180 r181 r182 r183 r184 r185 r186 r187 r188; have OZ := hid (HO.out.trans ((Only.refl _ wr).drew.trans oxz)); clear oxz
     cases RS with
     | false =>
      have hRf : R = false := HNR.out (by
       cases R1 with
       | false => rfl
       | true => exact absurd (HALL.out.1 rfl) (fun h => by cases h.2.2))
      subst hRf
      go_wp2_with fail
      go_ret
      exact ⟨rfl, HOZ.out.trans OZ.out⟩
     | true =>
      have HNX2 := hid (HNX.out (HALL.out.2 (by simp)))
      go_wp2_with fail
      go_roundw
      case rel => exact ⟨j + 1, by simp [go_sem], by omega, hid ⟨OZ.out, HNX2.out⟩⟩
      case measure => simp [intOf]; omega
    ·have hke : j = M := by omega
     subst hke; have t4 : decide ((j : Int) < (j : Int)) = false := by simp
     go_wp2_with fail
     clear z1 y1; have hRt : R = true := HR.out.2 ⟨HOP.out, take_all HTJ.out HM.out HM2.out⟩; subst hRt
     go_ret
     exact ⟨rfl, HOZ.out.trans HO.out⟩
end Go.Proofs.YtnkpoddbbdmipaaGreatDoor
