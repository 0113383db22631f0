/- . -/
import Derived.Test.YtnkpoddbbdmipaaGreatDoorTApKiB
namespace Go.Proofs.YtnkpoddbbdmipaaGreatDoor
open Go Go.RowKit
open Go.Lib (hid)
set_option linter.unusedVariables false
set_option linter.unusedSimpArgs false
theorem sm_ex {α : Type} (a b : α) : ∃ R : Bool, R = true ↔ a = b := by
 by_cases h : a = b
 ·exact ⟨true, by simp [h]⟩
 ·exact ⟨false, by simp [h]⟩
theorem take_snoc {α : Type} {l m : List α} {i : Nat} (h : l.take i = m.take i) (hl : i < l.length) (hm : i < m.length) (e : l[i] = m[i]) : l.take (i + 1) = m.take (i + 1) := by
 rw [List.take_succ_eq_append_getElem hl, List.take_succ_eq_append_getElem hm, h, e]
theorem take_all {α : Type} {l m : List α} {n : Nat} (h : l.take n = m.take n) (hl : l.length = n) (hm : m.length = n) : l = m := by
 rw [List.take_of_length_le (by omega), List.take_of_length_le (by omega)] at h; exact h
theorem get_ne {α : Type} {l m : List α} {i : Nat} (hl : i < l.length) (hm : i < m.length) (e : l[i] ≠ m[i]) : l ≠ m := fun h => e (by subst h; rfl)
def SameVG (z : Nat) : Prop := ∀ (t u : VT) (R : Bool), (R = true ↔ t = u) → SizeOf.sizeOf t ≤ z → ∀ (G G' : Nat → Prop) (w : World) (cs ds : List Value), CellsAt w G (valC t) cs → CellsAt w G' (valC u) ds →
  Calls Tryz.prog 52 #[.agg cs.toArray, .agg ds.toArray] w (fun e w' => e = .returned (.bool R) ∧ Only (fun _ => False) w w')
set_option maxRecDepth 100000 in
set_option maxHeartbeats 8000000 in
theorem sameV_no (k k' : Nat) (n n' : Int) (s s' : List UInt8) (ak ak' av av' : Option Addr) (lk lk' ck ck' lv lv' cv cv' : Nat) (hd : k ≠ k' ∨ n ≠ n' ∨ s ≠ s' ∨ lk ≠ lk' ∨ lv ≠ lv') (w : World) :
  Calls Tryz.prog 52 #[.agg #[.int .u8 (k : Int), .int .i64 n, .string ⟨s.toArray⟩, .slice ak lk ck, .slice av lv cv], .agg #[.int .u8 (k' : Int), .int .i64 n', .string ⟨s'.toArray⟩, .slice ak' lk' ck', .slice av' lv' cv']] w (fun e w' => e = .returned (.bool false) ∧ Only (fun _ => False) w w') := by
 obtain ⟨wb, hwb⟩ := eX ((w.alloc (.cells #[.int .u8 (k : Int), .int .i64 n, .string ⟨s.toArray⟩, .slice ak lk ck, .slice av lv cv] 35)).alloc (.cells #[.int .u8 (k' : Int), .int .i64 n', .string ⟨s'.toArray⟩, .slice ak' lk' ck', .slice av' lv' cv'] 35)); have ob : Only (fun _ => False) w wb := by rw [← hwb]; exact ((Only.refl _ w).alloc _).alloc _
 obtain ⟨bA, hbA⟩ := eX (w.heap.size); obtain ⟨bB, hbB⟩ := eX (bA + 1); have hx1 : wb.heap[bA]? = some (.cells #[.int .u8 (k : Int), .int .i64 n, .string ⟨s.toArray⟩, .slice ak lk ck, .slice av lv cv] 35 (0, 0)) := by rw [← hwb, ← hbA]; exact heap_old (heap_new w _) _
 have hx2 : wb.heap[bB]? = some (.cells #[.int .u8 (k' : Int), .int .i64 n', .string ⟨s'.toArray⟩, .slice ak' lk' ck', .slice av' lv' cv'] 35 (0, 0)) := by
  rw [← hwb, ← hbB, ← hbA]; have := heap_new (w.alloc (.cells #[.int .u8 (k : Int), .int .i64 n, .string ⟨s.toArray⟩, .slice ak lk ck, .slice av lv cv] 35)) (.cells #[.int .u8 (k' : Int), .int .i64 n', .string ⟨s'.toArray⟩, .slice ak' lk' ck', .slice av' lv' cv'] 35); rw [World.size_alloc] at this; exact this
 obtain ⟨c0, c1, c2, c3, c4, -⟩ := boxN5 hx1; obtain ⟨d0, d1, d2, d3, d4, -⟩ := boxN5 hx2; have HOB := hid ob; have HWB := hid hwb; have HBA := hid hbA; have HBB := hid hbB; clear hx1 hx2 ob hwb hbA hbB
 by_cases h1 : k = k'
 ·subst h1
  by_cases h2 : n = n'
  ·subst h2
   by_cases h3 : s = s'
   ·subst h3
    by_cases h4 : lk = lk'
    ·subst h4; have h5 : lv ≠ lv' := by
      rcases hd with h | h | h | h | h
      ·exact absurd rfl h
      ·exact absurd rfl h
      ·exact absurd rfl h
      ·exact absurd rfl h
      ·exact h
     have t5a : ((lv : Int) == (lv' : Int)) = false := by simp; omega
     have t5b : ((lv : Int) != (lv' : Int)) = true := by simp; omega
     clear hd h5
     go_enter Tryz.func52, Tryz.ntmps52
     go_upto_region 1 with (fail)
     rw [HWB.out, HBA.out, HBB.out]
     go_wp2_with fail
     clear c0 c1 c2 c3 c4 d0 d1 d2 d3 d4
     go_ret
     exact ⟨rfl, HOB.out⟩
    ·have t4a : ((lk : Int) == (lk' : Int)) = false := by simp; omega
     have t4b : ((lk : Int) != (lk' : Int)) = true := by simp; omega
     clear hd h4
     go_enter Tryz.func52, Tryz.ntmps52
     go_upto_region 1 with (fail)
     rw [HWB.out, HBA.out, HBB.out]
     go_wp2_with fail
     clear c0 c1 c2 c3 c4 d0 d1 d2 d3 d4
     go_ret
     exact ⟨rfl, HOB.out⟩
   ·have t3a : (s == s') = false := by simpa using h3
    have t3b : (s != s') = true := by simpa using h3
    clear hd
    go_enter Tryz.func52, Tryz.ntmps52
    go_upto_region 1 with (fail)
    rw [HWB.out, HBA.out, HBB.out]
    go_wp2_with fail
    clear c0 c1 c2 c3 c4 d0 d1 d2 d3 d4
    go_ret
    exact ⟨rfl, HOB.out⟩
  ·have t2a : (n == n') = false := by simpa using h2
   have t2b : (n != n') = true := by simpa using h2
   clear hd
   go_enter Tryz.func52, Tryz.ntmps52
   go_upto_region 1 with (fail)
   rw [HWB.out, HBA.out, HBB.out]
   go_wp2_with fail
   clear c0 c1 c2 c3 c4 d0 d1 d2 d3 d4
   go_ret
   exact ⟨rfl, HOB.out⟩
 ·have t1a : ((k : Int) == (k' : Int)) = false := by simp; omega
  have t1b : ((k : Int) != (k' : Int)) = true := by simp; omega
  clear hd
  go_enter Tryz.func52, Tryz.ntmps52
  go_upto_region 1 with (fail)
  rw [HWB.out, HBA.out, HBB.out]
  go_wp2_with fail
  clear c0 c1 c2 c3 c4 d0 d1 d2 d3 d4
  go_ret
  exact ⟨rfl, HOB.out⟩
set_option maxRecDepth 100000 in
set_option maxHeartbeats 8000000 in
theorem sameVG_step (z : Nat) (ih : SameVG z) : SameVG (z + 1) := by
 intro t u R hR ht G G' w cs ds hv hu; obtain ⟨k, n, s, ks, vs⟩ := t; obtain ⟨k0, n0, s0, ks2, vs2⟩ := u
 by_cases hd : k ≠ k0 ∨ n ≠ n0 ∨ s ≠ s0 ∨ ks.length ≠ ks2.length ∨ vs.length ≠ vs2.length
 ·obtain ⟨kv, lv, rfl, hk, hl⟩ := val_cells hv; obtain ⟨kv2, lv2, rfl, hk2, hl2⟩ := val_cells hu; obtain ⟨ak, ck, rfl, -⟩ := rows_at hk; obtain ⟨ak2, ck2, rfl, -⟩ := rows_at hk2; obtain ⟨av, cv, rfl, -⟩ := rows_at hl; obtain ⟨av2, cv2, rfl, -⟩ := rows_at hl2; have e : R = false := by
   cases R with
   | false => rfl
   | true =>
    exfalso
    obtain ⟨e1, e2, e3, e4, e5⟩ := VT.mk.inj (hR.1 rfl); subst e1; subst e2; subst e3; subst e4; subst e5
    rcases hd with h | h | h | h | h <;> exact h rfl
  subst e; exact sameV_no k k0 n n0 s s0 ak ak2 av av2 _ _ ck ck2 _ _ cv cv2 hd w
 have e1 : k = k0 := Classical.byContradiction fun e => hd (.inl e)
 have e2 : n = n0 := Classical.byContradiction fun e => hd (.inr (.inl e))
 have e3 : s = s0 := Classical.byContradiction fun e => hd (.inr (.inr (.inl e)))
 have e4 : ks.length = ks2.length := Classical.byContradiction fun e => hd (.inr (.inr (.inr (.inl e))))
 have e5 : vs.length = vs2.length := Classical.byContradiction fun e => hd (.inr (.inr (.inr (.inr e))))
 subst e1; subst e2; subst e3; have hR : R = true ↔ (ks = ks2 ∧ vs = vs2) := hR.trans ⟨fun e => by injection e with _ _ _ e4 e5; exact ⟨e4, e5⟩, fun ⟨e4, e5⟩ => by rw [e4, e5]⟩; have HR := hid hR; have HE4 := hid e4; have HE5 := hid e5; clear hd hR; obtain ⟨kv, lv, rfl, hk, hl⟩ := val_cells hv; obtain ⟨kv2, lv2, rfl, hk2, hl2⟩ := val_cells hu; obtain ⟨ak, ck, rfl, hck, hck', hK⟩ := rows_at hk; obtain ⟨ak2, ck2, rfl, hck2, hck2', hK2⟩ := rows_at hk2; obtain ⟨av, cv, rfl, hcv, hcv', hV⟩ := rows_at hl; obtain ⟨av2, cv2, rfl, hcv2, hcv2', hV2⟩ := rows_at hl2; have IH := hid ih; have HT := hid ht; obtain ⟨lv, hlv⟩ : ∃ lv, lv = vs.length := ⟨_, rfl⟩; obtain ⟨lk, hlk⟩ : ∃ lk, lk = ks.length := ⟨_, rfl⟩; rw [← e4] at hck2 ⊢; rw [← e5] at hcv2 ⊢; rw [← hlv] at hcv hcv2 ⊢; rw [← hlk] at hck hck2 ⊢; clear e4 e5; obtain ⟨wb, hwb⟩ := eX ((w.alloc (.cells #[.int .u8 k, .int .i64 n, .string ⟨s.toArray⟩, .slice ak lk ck, .slice av lv cv] 35)).alloc (.cells #[.int .u8 k, .int .i64 n, .string ⟨s.toArray⟩, .slice ak2 lk ck2, .slice av2 lv cv2] 35)); have ob : Only (fun _ => False) w wb := by rw [← hwb]; exact ((Only.refl _ w).alloc _).alloc _
 obtain ⟨bA, hbA⟩ := eX (w.heap.size); obtain ⟨bB, hbB⟩ := eX (bA + 1); have hx1 : wb.heap[bA]? = some (.cells #[.int .u8 k, .int .i64 n, .string ⟨s.toArray⟩, .slice ak lk ck, .slice av lv cv] 35 (0, 0)) := by rw [← hwb, ← hbA]; exact heap_old (heap_new w _) _
 have hx2 : wb.heap[bB]? = some (.cells #[.int .u8 k, .int .i64 n, .string ⟨s.toArray⟩, .slice ak2 lk ck2, .slice av2 lv cv2] 35 (0, 0)) := by
  rw [← hwb, ← hbB, ← hbA]; have := heap_new (w.alloc (.cells #[.int .u8 k, .int .i64 n, .string ⟨s.toArray⟩, .slice ak lk ck, .slice av lv cv] 35)) (.cells #[.int .u8 k, .int .i64 n, .string ⟨s.toArray⟩, .slice ak2 lk ck2, .slice av2 lv cv2] 35); rw [World.size_alloc] at this; exact this
 obtain ⟨c0, c1, c2, c3, c4, -⟩ := boxN5 hx1; obtain ⟨d0, d1, d2, d3, d4, -⟩ := boxN5 hx2; have HC := hid (And.intro c3 (And.intro c4 (And.intro d3 d4))); have HLV := hid hlv; have HLK := hid hlk; have HOB := hid ob; have HWB := hid hwb; have HBA := hid hbA; have HBB := hid hbB; have HKK := hid hK; have HKK2 := hid hK2; have HVV := hid hV; have HVV2 := hid hV2; clear hx1 hx2 hK hK2 hV hV2 hk hk2 hl hl2 hv hu ob hwb hbA hbB hlv hlk ih ht
 go_enter Tryz.func52, Tryz.ntmps52
 go_upto_region 1 with (fail)
 rw [HWB.out, HBA.out, HBB.out]
 go_wp2_with fail
 clear c0 c1 c2 c3 c4 d0 d1 d2 d3 d4
 go_loopw [5] (fun v wr => ∃ i : Nat, v = .int .i64 (i : Int) ∧ i ≤ lk ∧ Hid (Only (fun _ => False) wb wr ∧ ks.take i = ks2.take i)) (fun v _ => lk - (intOf v).toNat)
 case atStart => exact ⟨0, by simp, by omega, hid ⟨oR, rfl⟩⟩
 case round =>
  obtain ⟨i, rfl, hi, HOT⟩ := hrel; have HO := hid HOT.out.1; have HTK := hid HOT.out.2; clear HOT; obtain ⟨c3, c4, d3, d4⟩ := HC.out; have c3 := keepc HO.out c3; have d3 := keepc HO.out d3
  by_cases hlt : i < lk
  ·have t3 : decide ((i : Int) < (lk : Int)) = true := by simpa using hlt
   have hi0 : (0 : Int) ≤ (i : Int) := by omega
   have hi1 : (i : Int) < (lk : Int) := by omega
   obtain ⟨gk, ok, cs, rfl, -, hr, hc⟩ := HKK.out i (by rw [← HLK.out]; exact hlt); have hki : i < ks.length := by rw [← HLK.out]; exact hlt
   have hki2 : i < ks2.length := by rw [← HE4.out]; exact hki
   obtain ⟨gk2, ok2, cs2, rfl, -, hr2, hc2⟩ := HKK2.out i hki2; have := str_cell hc; subst this; have := str_cell hc2; subst this; have e1 := keepc (HOB.out.trans HO.out) (hr 0 _ rfl); have e2 := keepc (HOB.out.trans HO.out) (hr2 0 _ rfl); rw [Nat.mul_one, Nat.add_zero] at e1 e2; obtain ⟨ki, hq⟩ := eX (ks[i]); obtain ⟨ki2, hq2⟩ := eX (ks2[i]); rw [hq] at e1; rw [hq2] at e2; have HNX := hid (fun e : ki = ki2 => take_snoc HTK.out hki hki2 (hq.trans (e.trans hq2.symm))); have HNE := hid (fun e : ki ≠ ki2 => get_ne hki hki2 (by rw [hq, hq2]; exact e)); clear hq hq2; have HX := hid (fun (wx : World) (ox : Only (fun _ => False) wr.drew wx) => And.intro (keepc ((Only.refl _ wr).drew.trans ox) c3) (And.intro (keepc ((Only.refl _ wr).drew.trans ox) d3) (And.intro (keepc ((Only.refl _ wr).drew.trans ox) e1) (keepc ((Only.refl _ wr).drew.trans ox) e2)))); clear hc hc2 hr hr2 e1 e2 c4 d4 hki hki2
   go_upto_region 6 with (fail)
   clear c3 d3; refine wp_region_steps 10 (by kernel_rfl) rfl (by kernel_rfl) [some 51, some 52, some 53, some 54, some 55, some 56, some 57, some 58, some 59, some 60] rfl rfl (fun _ => False) [(fun v _ => v = (.pointer (some ⟨bA, 3, none⟩))), (fun v _ => v = (.slice (some ⟨gk, ok, none⟩) lk ck)), (fun v _ => v = (.int .i64 (i : Int))), (fun v _ => v = (.pointer (some ⟨gk, ok + i, none⟩))), (fun v _ => v = (.string ⟨ki.toArray⟩)), (fun v _ => v = (.pointer (some ⟨bB, 3, none⟩))), (fun v _ => v = (.slice (some ⟨gk2, ok2, none⟩) lk ck2)), (fun v _ => v = (.int .i64 (i : Int))), (fun v _ => v = (.pointer (some ⟨gk2, ok2 + i, none⟩))), (fun v _ => v = (.string ⟨ki2.toArray⟩))] rfl ⟨?_, ?_, ?_, ?_, ?_, ?_, ?_, ?_, ?_, ?_, trivial⟩ _ rfl ⟨?_, ?_, ?_, ?_, ?_, ?_, ?_, ?_, ?_, ?_, trivial⟩ ?_
   iterate 10 exact Stable.is _ _
   ·intro x wx ox hN TT HTT; unfold StepTo; simp only [putAll, Act.put, zA, zB, zC]; clear hN
    go_wp2_with fail
    exact ⟨rfl, _, rfl, HTT.out _ _ rfl oR⟩
   ·intro x wx ox hN TT HTT; unfold StepTo; simp only [putAll, Act.put, zA, zB, zC, eI (hN.1 rfl)]; clear hN; obtain ⟨m1, m2, m3, m4⟩ := HX.out wx ox
    go_wp2_with fail
    exact ⟨rfl, _, rfl, HTT.out _ _ rfl oR⟩
   ·intro x wx ox hN TT HTT; unfold StepTo; simp only [putAll, Act.put, zA, zB, zC]; clear hN
    go_wp2_with fail
    exact ⟨rfl, _, rfl, HTT.out _ _ rfl oR⟩
   ·intro x wx ox hN TT HTT; unfold StepTo; simp only [putAll, Act.put, zA, zB, zC, eI (hN.1 rfl), eI (hN.2.1 rfl)]; clear hN
    go_wp2_with fail
    exact ⟨rfl, _, rfl, HTT.out _ _ rfl oR⟩
   ·intro x wx ox hN TT HTT; unfold StepTo; simp only [putAll, Act.put, zA, zB, zC, eI (hN.1 rfl)]; clear hN; obtain ⟨m1, m2, m3, m4⟩ := HX.out wx ox
    go_wp2_with fail
    exact ⟨rfl, _, rfl, HTT.out _ _ rfl oR⟩
   ·intro x wx ox hN TT HTT; unfold StepTo; simp only [putAll, Act.put, zA, zB, zC]; clear hN
    go_wp2_with fail
    exact ⟨rfl, _, rfl, HTT.out _ _ rfl oR⟩
   ·intro x wx ox hN TT HTT; unfold StepTo; simp only [putAll, Act.put, zA, zB, zC, eI (hN.1 rfl)]; clear hN; obtain ⟨m1, m2, m3, m4⟩ := HX.out wx ox
    go_wp2_with fail
    exact ⟨rfl, _, rfl, HTT.out _ _ rfl oR⟩
   ·intro x wx ox hN TT HTT; unfold StepTo; simp only [putAll, Act.put, zA, zB, zC]; clear hN
    go_wp2_with fail
    exact ⟨rfl, _, rfl, HTT.out _ _ rfl oR⟩
   ·intro x wx ox hN TT HTT; unfold StepTo; simp only [putAll, Act.put, zA, zB, zC, eI (hN.1 rfl), eI (hN.2.1 rfl)]; clear hN
    go_wp2_with fail
    exact ⟨rfl, _, rfl, HTT.out _ _ rfl oR⟩
   ·intro x wx ox hN TT HTT; unfold StepTo; simp only [putAll, Act.put, zA, zB, zC, eI (hN.1 rfl)]; clear hN; obtain ⟨m1, m2, m3, m4⟩ := HX.out wx ox
    go_wp2_with fail
    exact ⟨rfl, _, rfl, HTT.out _ _ rfl oR⟩
   intro xz wxz oxz hN; simp only [putAll, Act.put, zA, zB, zC, eI hN.1, eI hN.2.1, eI hN.2.2.1, eI hN.2.2.2.1, eI hN.2.2.2.2.1, eI hN.2.2.2.2.2.1, eI hN.2.2.2.2.2.2.1, eI hN.2.2.2.2.2.2.2.1, eI hN.2.2.2.2.2.2.2.2.1, eI hN.2.2.2.2.2.2.2.2.2.1]; clear hN; have OZ := hid (HO.out.trans ((Only.refl _ wr).drew.trans oxz)); clear oxz
   by_cases hkk : ki = ki2
   rotate_left
   ·have hRf : R = false := by
     have h1 := HNE.out hkk
     cases R with
     | false => rfl
     | true => exact absurd (HR.out.1 rfl).1 h1
    subst hRf; have z1 : (ki == ki2) = false := by simpa using hkk
    have z2 : (ki != ki2) = true := by simpa using hkk
    go_wp2_with fail
    go_ret
    exact ⟨rfl, HOB.out.trans OZ.out⟩
   ·have HNX2 := hid (HNX.out hkk); subst hkk
    go_wp2_with fail
    go_roundw
    case rel => exact ⟨i + 1, by simp [go_sem], by omega, hid ⟨OZ.out, HNX2.out⟩⟩
    case measure => simp [intOf]; omega
  ·have hke : i = lk := by omega
   subst hke; have t3 : decide ((i : Int) < (i : Int)) = false := by simp
   go_wp2_with fail
   clear c3 d3 c4 d4; have HKS := hid (take_all HTK.out HLK.out.symm (by rw [← HE4.out]; exact HLK.out.symm)); clear HTK
   go_loopw [6] (fun v wr => ∃ j : Nat, v = .int .i64 (j : Int) ∧ j ≤ lv ∧ Hid (Only (fun _ => False) wb wr ∧ vs.take j = vs2.take j)) (fun v _ => lv - (intOf v).toNat)
   case atStart => exact ⟨0, by simp, by omega, hid ⟨HO.out, rfl⟩⟩
   case round =>
    clear HO; obtain ⟨j, rfl, hj, HOT⟩ := hrel; have HO := hid HOT.out.1; have HTK := hid HOT.out.2; clear HOT; obtain ⟨c3, c4, d3, d4⟩ := HC.out; have c4 := keepc HO.out c4; have d4 := keepc HO.out d4; clear c3 d3
    by_cases hlt : j < lv
    ·have t4 : decide ((j : Int) < (lv : Int)) = true := by simpa using hlt
     have hj0 : (0 : Int) ≤ (j : Int) := by omega
     have hj1 : (j : Int) < (lv : Int) := by omega
     have hvi : j < vs.length := by rw [← HLV.out]; exact hlt
     have hvj : j < vs2.length := by rw [← HE5.out]; exact hvi
     obtain ⟨gv, ov, cs, rfl, -, hr, hc⟩ := HVV.out j hvi; obtain ⟨R1, hR1⟩ := sm_ex vs[j] vs2[j]; have HNX := hid (fun e : R1 = true => take_snoc HTK.out hvi hvj (hR1.1 e)); have HNE := hid (fun e : R1 = false => get_ne hvi hvj (fun h => by have := hR1.2 h; rw [e] at this; cases this)); obtain ⟨gv2, ov2, cs2, rfl, -, hr2, hc2⟩ := HVV2.out j hvj; have hrec := fun (wx : World) (ox : Only (fun _ => False) w wx) => IH.out vs[j] vs2[j] R1 hR1 (by have h1 := sizeOf_get (k := k) (n := n) (s := s) (ks := ks) j hvi; have h2 := HT.out; omega) G G' wx _ _ (CellsAt.only ox (fun _ _ h => h) _ _ hc) (CellsAt.only ox (fun _ _ h => h) _ _ hc2)
     obtain ⟨k', n', s', ak', lk', ck', av', lv', cv', rfl⟩ := valC_form2 hc; obtain ⟨k'', n'', s'', ak'', lk'', ck'', av'', lv'', cv'', rfl⟩ := valC_form2 hc2; obtain ⟨e0, e1, e2, e3, e4⟩ := cells5_of hr; obtain ⟨f0, f1, f2, f3, f4⟩ := cells5_of hr2; have oww : Only (fun _ => False) w wr := HOB.out.trans HO.out; have HX := hid (fun (wx : World) (ox : Only (fun _ => False) wr.drew wx) => have o := (Only.refl _ wr).drew.trans ox; have ow := oww.trans o; And.intro (keepc o c4) (And.intro (keepc o d4) (And.intro (keepc ow e0) (And.intro (keepc ow e1) (And.intro (keepc ow e2) (And.intro (keepc ow e3) (And.intro (keepc ow e4) (And.intro (keepc ow f0) (And.intro (keepc ow f1) (And.intro (keepc ow f2) (And.intro (keepc ow f3) (keepc ow f4)))))))))))); have HREC := hid (fun (wx : World) (ox : Only (fun _ => False) wr.drew wx) => hrec wx (oww.trans ((Only.refl _ wr).drew.trans ox))); clear hrec hR1 hvj hr hr2 hc hc2 e0 e1 e2 e3 e4 f0 f1 f2 f3 f4 oww
     go_upto_region 11 with (fail)
     clear c4 d4; refine wp_region_steps 11 (by kernel_rfl) rfl (by kernel_rfl) [some 69, some 70, some 71, some 72, some 73, some 74, some 75, some 76, some 77, some 78, some 79] rfl rfl (fun _ => False) [(fun v _ => v = (.pointer (some ⟨bA, 4, none⟩))), (fun v _ => v = (.slice (some ⟨gv, ov, none⟩) lv cv)), (fun v _ => v = (.int .i64 (j : Int))), (fun v _ => v = (.pointer (some ⟨gv, ov + j * 5, none⟩))), (fun v _ => v = (.agg #[.int .u8 (k' : Int), .int .i64 n', .string ⟨s'.toArray⟩, .slice ak' lk' ck', .slice av' lv' cv'])), (fun v _ => v = (.pointer (some ⟨bB, 4, none⟩))), (fun v _ => v = (.slice (some ⟨gv2, ov2, none⟩) lv cv2)), (fun v _ => v = (.int .i64 (j : Int))), (fun v _ => v = (.pointer (some ⟨gv2, ov2 + j * 5, none⟩))), (fun v _ => v = (.agg #[.int .u8 (k'' : Int), .int .i64 n'', .string ⟨s''.toArray⟩, .slice ak'' lk'' ck'', .slice av'' lv'' cv''])), (fun v _ => v = (.bool R1))] rfl ⟨?_, ?_, ?_, ?_, ?_, ?_, ?_, ?_, ?_, ?_, ?_, trivial⟩ _ rfl ⟨?_, ?_, ?_, ?_, ?_, ?_, ?_, ?_, ?_, ?_, ?_, trivial⟩ ?_
     iterate 11 exact Stable.is _ _
     ·intro x wx ox hN TT HTT; unfold StepTo; simp only [putAll, Act.put, zA, zB, zC]; clear hN
      go_wp2_with fail
      exact ⟨rfl, _, rfl, HTT.out _ _ rfl oR⟩
     ·intro x wx ox hN TT HTT; unfold StepTo; simp only [putAll, Act.put, zA, zB, zC, eI (hN.1 rfl)]; clear hN; obtain ⟨m1, m2, m3, m4, m5, m6, m7, m8, m9, m10, m11, m12⟩ := HX.out wx ox
      go_wp2_with fail
      exact ⟨rfl, _, rfl, HTT.out _ _ rfl oR⟩
     ·intro x wx ox hN TT HTT; unfold StepTo; simp only [putAll, Act.put, zA, zB, zC]; clear hN
      go_wp2_with fail
      exact ⟨rfl, _, rfl, HTT.out _ _ rfl oR⟩
     ·intro x wx ox hN TT HTT; unfold StepTo; simp only [putAll, Act.put, zA, zB, zC, eI (hN.1 rfl), eI (hN.2.1 rfl)]; clear hN
      go_wp2_with fail
      exact ⟨rfl, _, rfl, HTT.out _ _ rfl oR⟩
     ·intro x wx ox hN TT HTT; unfold StepTo; simp only [putAll, Act.put, zA, zB, zC, eI (hN.1 rfl)]; clear hN; obtain ⟨m1, m2, m3, m4, m5, m6, m7, m8, m9, m10, m11, m12⟩ := HX.out wx ox
      go_wp2_with fail
      exact ⟨rfl, _, rfl, HTT.out _ _ rfl oR⟩
     ·intro x wx ox hN TT HTT; unfold StepTo; simp only [putAll, Act.put, zA, zB, zC]; clear hN
      go_wp2_with fail
      exact ⟨rfl, _, rfl, HTT.out _ _ rfl oR⟩
     ·intro x wx ox hN TT HTT; unfold StepTo; simp only [putAll, Act.put, zA, zB, zC, eI (hN.1 rfl)]; clear hN; obtain ⟨m1, m2, m3, m4, m5, m6, m7, m8, m9, m10, m11, m12⟩ := HX.out wx ox
      go_wp2_with fail
      exact ⟨rfl, _, rfl, HTT.out _ _ rfl oR⟩
     ·intro x wx ox hN TT HTT; unfold StepTo; simp only [putAll, Act.put, zA, zB, zC]; clear hN
      go_wp2_with fail
      exact ⟨rfl, _, rfl, HTT.out _ _ rfl oR⟩
     ·intro x wx ox hN TT HTT; unfold StepTo; simp only [putAll, Act.put, zA, zB, zC, eI (hN.1 rfl), eI (hN.2.1 rfl)]; clear hN
      go_wp2_with fail
      exact ⟨rfl, _, rfl, HTT.out _ _ rfl oR⟩
     ·intro x wx ox hN TT HTT; unfold StepTo; simp only [putAll, Act.put, zA, zB, zC, eI (hN.1 rfl)]; clear hN; obtain ⟨m1, m2, m3, m4, m5, m6, m7, m8, m9, m10, m11, m12⟩ := HX.out wx ox
      go_wp2_with fail
      exact ⟨rfl, _, rfl, HTT.out _ _ rfl oR⟩
     ·intro x wx ox hN TT HTT; unfold StepTo; simp only [putAll, Act.put, zA, zB, zC, eI (hN.1 rfl), eI (hN.2.1 rfl)]; clear hN; have ht := HREC.out wx ox; have HT := hid ht; clear ht
      go_wp2_with fail
      refine HT.out.mono ?_
      rintro e w6 ⟨rfl, o6⟩; have O6 := hid o6; clear o6
      go_wp2_with fail
      exact ⟨rfl, _, rfl, HTT.out _ _ rfl (O6.out)⟩
     intro xz wxz oxz hN; simp only [putAll, Act.put, zA, zB, zC, eI hN.1, eI hN.2.1, eI hN.2.2.1, eI hN.2.2.2.1, eI hN.2.2.2.2.1, eI hN.2.2.2.2.2.1, eI hN.2.2.2.2.2.2.1, eI hN.2.2.2.2.2.2.2.1, eI hN.2.2.2.2.2.2.2.2.1, eI hN.2.2.2.2.2.2.2.2.2.1, eI hN.2.2.2.2.2.2.2.2.2.2.1]; clear hN; have OZ := hid (HO.out.trans ((Only.refl _ wr).drew.trans oxz)); clear oxz
     cases R1 with
     | false =>
      have hRf : R = false := by
       have h1 := HNE.out rfl
       cases R with
       | false => rfl
       | true => exact absurd (HR.out.1 rfl).2 h1
      subst hRf
      go_wp2_with fail
      go_ret
      exact ⟨rfl, HOB.out.trans OZ.out⟩
     | true =>
      have HNX2 := hid (HNX.out rfl)
      go_wp2_with fail
      go_roundw
      case rel => exact ⟨j + 1, by simp [go_sem], by omega, hid ⟨OZ.out, HNX2.out⟩⟩
      case measure => simp [intOf]; omega
    ·have hke : j = lv := by omega
     subst hke; have t4 : decide ((j : Int) < (j : Int)) = false := by simp
     go_wp2_with fail
     clear c4 d4; have hRt : R = true := HR.out.2 ⟨HKS.out, take_all HTK.out HLV.out.symm (by rw [← HE5.out]; exact HLV.out.symm)⟩; subst hRt
     go_ret
     exact ⟨rfl, HOB.out.trans HO.out⟩
theorem sameVG_all : ∀ z, SameVG z
 | 0 => fun t u R hR ht => by exfalso; obtain ⟨k, n, s, ks, vs⟩ := t; simp only [VT.mk.sizeOf_spec] at ht; omega
 | z + 1 => sameVG_step z (sameVG_all z)
theorem sameV_any (t u : VT) (R : Bool) (hR : R = true ↔ t = u) {G G' : Nat → Prop} {w : World} {cs ds : List Value} (h : CellsAt w G (valC t) cs) (h' : CellsAt w G' (valC u) ds) : Calls Tryz.prog 52 #[.agg cs.toArray, .agg ds.toArray] w (fun e w' => e = .returned (.bool R) ∧ Only (fun _ => False) w w') :=
 sameVG_all _ t u R hR (Nat.le_refl _) G G' w cs ds h h'
end Go.Proofs.YtnkpoddbbdmipaaGreatDoor
