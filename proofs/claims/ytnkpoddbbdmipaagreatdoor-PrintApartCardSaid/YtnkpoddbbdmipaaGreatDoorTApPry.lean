/- . -/
import Derived.Test.YtnkpoddbbdmipaaGreatDoorTApPrx
namespace Go.Proofs.YtnkpoddbbdmipaaGreatDoor
open Go Go.RowKit
open Go.Lib (hid)
set_option linter.unusedVariables false
set_option linter.unusedSimpArgs false
inductive WellV : VT → Prop
 | mk (k : Nat) (n : Int) (s : List UInt8) (ks : List (List UInt8)) (vs : List VT) (hn : -9223372036854775808 ≤ n ∧ n ≤ 9223372036854775807) (hk : vs = [] ∨ k = 5 ∨ k = 6 ∧ ks.length = vs.length) (hv : ∀ v ∈ vs, WellV v) : WellV (.mk k n s ks vs)
theorem sep_next (g : List It) (l : List (List It)) (i : Nat) (h : i < l.length) : ren (sepI g (l.take (i + 1))) = ren (sepI g (l.take i)) ++ (if 0 < i then ren g else []) ++ ren l[i] := by
 rw [sep_succ g l i h]
 by_cases h0 : 0 < i
 ·rw [if_pos h0, if_pos h0]
 ·have : i = 0 := by omega
  subst this; rw [sep_zero]; rfl
def itemsV (k : Nat) (ks : List (List UInt8)) (vs : List VT) : List (List It) := if k = 6 then List.zipWith pairI ks (vs.map valI) else vs.map valI
theorem escS_ge : ∀ l : List UInt8, l.length ≤ (escS l).length
 | [] => by simp
 | c :: l => by
  have := escS_ge l; have h1 : 1 ≤ (esc1 c).length := by
    unfold esc1; repeat' split
    all_goals simp
  rw [escS_cons, List.length_append, List.length_cons]; omega
theorem items_len {k : Nat} {ks : List (List UInt8)} {vs : List VT} (hk : vs = [] ∨ k = 5 ∨ k = 6 ∧ ks.length = vs.length) : (itemsV k ks vs).length = vs.length := by
 unfold itemsV
 split
 ·rcases hk with h | h | ⟨_, h⟩
  ·subst h; simp
  ·omega
  ·rw [List.length_zipWith, List.length_map, h]; omega
 ·rw [List.length_map]
theorem items_get {k : Nat} {ks : List (List UInt8)} {vs : List VT} (hk : vs = [] ∨ k = 5 ∨ k = 6 ∧ ks.length = vs.length) (i : Nat) (h : i < vs.length) (h' : i < (itemsV k ks vs).length) : (k = 6 ∧ ∃ hi : i < ks.length, ren (itemsV k ks vs)[i] = ks[i] ++ [58, 32] ++ ren (valI vs[i])) ∨ (k ≠ 6 ∧ ren (itemsV k ks vs)[i] = ren (valI vs[i])) := by
 by_cases h6 : k = 6
 ·left
  refine ⟨h6, ?_⟩
  have hl : ks.length = vs.length := by
   rcases hk with h1 | h1 | ⟨_, h1⟩
   ·subst h1; simp at h
   ·omega
   ·exact h1
  refine ⟨by omega, ?_⟩
  have e : itemsV k ks vs = List.zipWith pairI ks (vs.map valI) := if_pos h6; simp only [e, List.getElem_zipWith, List.getElem_map]; unfold pairI; rw [ren_cons, ren_cons, ren_cons]; simp [It.src, nmI, sgI]
 ·right
  refine ⟨h6, ?_⟩
  have e : itemsV k ks vs = vs.map valI := if_neg h6; simp only [e, List.getElem_map]
theorem items_le {k : Nat} {n : Int} {s : List UInt8} {ks : List (List UInt8)} {vs : List VT} (hk : vs = [] ∨ k = 5 ∨ k = 6 ∧ ks.length = vs.length) : (ren (sepI gapI (itemsV k ks vs))).length ≤ (ren (valI (.mk k n s ks vs))).length := by
 have h0 : vs = [] → (ren (sepI gapI (itemsV k ks vs))).length = 0 := fun e => by subst e; unfold itemsV; split <;> simp [sepI, ren]
 by_cases h5 : k = 5
 ·rw [valI_eq, if_neg (by omega), if_neg (by omega), if_neg (by omega), if_neg (by omega), if_neg (by omega), if_pos h5]; have e : itemsV k ks vs = vs.map valI := if_neg (by omega); rw [e, ren_cons, ren_app]; simp; omega
 by_cases h6 : k = 6
 ·rw [valI_eq, if_neg (by omega), if_neg (by omega), if_neg (by omega), if_neg (by omega), if_neg (by omega), if_neg (by omega), if_pos h6]; have e : itemsV k ks vs = List.zipWith pairI ks (vs.map valI) := if_pos h6; rw [e, ren_cons, ren_app]; simp; omega
 rw [h0 (by rcases hk with h | h | h <;> first | exact h | omega)]; omega
theorem sep_part (g : List It) (l : List (List It)) (i : Nat) (h : i < l.length) : (ren l[i]).length ≤ (ren (sepI g l)).length := by
 have h1 := sep_le g l (i + 1); rw [sep_next g l i h, List.length_append, List.length_append] at h1; omega
set_option maxRecDepth 100000 in
set_option maxHeartbeats 16000000 in
theorem prV_any : ∀ (v : VT), WellV v → ∀ (G : Nat → Prop) (w : World) (cs : List Value), CellsAt w G (valC v) cs → (ren (valI v)).length ≤ 1000000000000 →
  Calls Tryz.prog 19 #[.agg cs.toArray] w (fun e w' => e = .returned (.string ⟨(ren (valI v)).toArray⟩) ∧ Only (fun _ => False) w w') := by
 intro v hw
 induction hw with
 | mk k n s ks vs hn hk hv ih =>
 intro G w cs h hl; obtain ⟨kv, lv, rfl, hkk, hll⟩ := val_cells h; obtain ⟨ak, ck, rfl, hck, hck', hK⟩ := rows_at hkk; obtain ⟨av, cv, rfl, hcv, hcv', hV⟩ := rows_at hll; obtain ⟨L, hL⟩ := eX (vs.length); obtain ⟨LK, hLK⟩ := eX (ks.length); have hil := items_len hk; have hile := items_le (n := n) (s := s) hk; have hig := items_get hk; have hm6 : k = 6 → vs ≠ [] → LK = L := fun h6 hne => by
  rcases hk with h1 | h1 | ⟨_, h1⟩
  ·exact absurd h1 hne
  ·omega
  ·omega
 obtain ⟨R, hR⟩ := eX (ren (valI (.mk k n s ks vs))); rw [hR] at hl hile ⊢; rw [hL] at hcv ⊢; rw [hLK] at hck ⊢; obtain ⟨wb, hwb⟩ := eX (w.alloc (.cells #[.int .u8 k, .int .i64 n, .string ⟨s.toArray⟩, .slice ak LK ck, .slice av L cv] 35)); obtain ⟨bA, hbA⟩ := eX (w.heap.size); have ob : Only (fun _ => False) w wb := by rw [← hwb]; exact (Only.refl _ w).alloc _
 have hx1 : wb.heap[bA]? = some (.cells #[.int .u8 k, .int .i64 n, .string ⟨s.toArray⟩, .slice ak LK ck, .slice av L cv] 35 (0, 0)) := by rw [← hwb, ← hbA]; exact heap_new w _
 obtain ⟨c0, c1, c2, c3, c4, -⟩ := boxN5 hx1; obtain ⟨n0, n1⟩ := hn; have HC := hid (And.intro c0 (And.intro c1 (And.intro c2 (And.intro c3 c4)))); have HOB := hid ob; have HWB := hid hwb; have HBA := hid hbA; have HR := hid hR; have HKK := hid hK; have HVV := hid hV; have IH := hid ih; have HL := hid hL; have HLK := hid hLK; have HIL := hid hil; have HIG := hid hig; have HM6 := hid hm6; have HK := hid hk; have HILE := hid (Nat.le_trans hile hl); clear hx1 ob hwb hbA hR hK hV ih hil hig hm6 hk hkk hll h hv hile hL hLK
 go_enter Tryz.func19, Tryz.ntmps19
 go_upto_region 1 with (fail)
 rw [HWB.out, HBA.out]
 go_wp2_with fail
 clear c0 c1 c2 c3 c4
 go_loopw [3, 4] (fun x y wr => ∃ i : Nat, y = .int .i64 (i : Int) ∧ i ≤ L ∧ x = .string ⟨(ren (sepI gapI ((itemsV k ks vs).take i))).toArray⟩ ∧ Hid (Only (fun _ => False) wb wr)) (fun _ y _ => L - (intOf y).toNat)
 case atStart => exact ⟨0, rfl, by omega, by rw [sep_zero], hid oR⟩
 case round =>
  obtain ⟨i, rfl, hi, rfl, HO⟩ := hrel; obtain ⟨c0, c1, c2, c3, c4⟩ := HC.out; have c0 := keepc HO.out c0; have c1 := keepc HO.out c1; have c2 := keepc HO.out c2; have c3 := keepc HO.out c3; have c4 := keepc HO.out c4; have hal := Nat.le_trans (sep_le gapI (itemsV k ks vs) i) HILE.out
  by_cases hlt : i < L
  ·have t1 : decide ((i : Int) < (L : Int)) = true := decide_eq_true (by omega); have hi0 : (0 : Int) ≤ (i : Int) := by omega
   have hi1 : (i : Int) < (L : Int) := by omega
   have hvi : i < vs.length := by rw [HL.out]; exact hlt
   have hii : i < (itemsV k ks vs).length := by rw [HIL.out]; exact hvi
   have hnx := sep_next gapI (itemsV k ks vs) i hii; have hpl := Nat.le_trans (sep_part gapI (itemsV k ks vs) i hii) HILE.out; have hcs := HIG.out i hvi hii; obtain ⟨gv, ov, xs, rfl, -, hr, hc⟩ := HVV.out i hvi; have hrec : (ren (valI vs[i])).length ≤ 1000000000000 → ∀ wx, Only (fun _ => False) wb wx → _ := fun hlen wx ox => IH.out vs[i] (List.getElem_mem hvi) G wx xs (CellsAt.only (HOB.out.trans ox) (fun _ _ h => h) _ _ hc) hlen
   obtain ⟨k', n', s', ak', lk', ck2', av', lv', cv2', rfl⟩ := valC_form2 hc; obtain ⟨e0, e1, e2, e3, e4⟩ := cells5_of hr; have e0 := keepc (HOB.out.trans HO.out) e0; have e1 := keepc (HOB.out.trans HO.out) e1; have e2 := keepc (HOB.out.trans HO.out) e2; have e3 := keepc (HOB.out.trans HO.out) e3; have e4 := keepc (HOB.out.trans HO.out) e4; obtain ⟨acc, hacc⟩ := eX (ren (sepI gapI ((itemsV k ks vs).take i))); obtain ⟨acc', hacc'⟩ : ∃ a, ren (sepI gapI ((itemsV k ks vs).take (i + 1))) = a := ⟨_, rfl⟩; have HA' := hid hacc'; rw [hacc] at hal hnx ⊢; rw [hacc', gap_ren] at hnx; obtain ⟨rv, hrv⟩ := eX (ren (valI vs[i])); rw [hrv] at hrec hcs; clear hacc hacc'
   by_cases h6 : k = 6
   ·have u6 : ((k : Int) == 6) = true := by simp; omega
    have hlk : LK = L := HM6.out h6 (fun e => by rw [e] at hvi; simp at hvi); have hik : (i : Int) < (LK : Int) := by omega
    obtain ⟨hki, heq⟩ : ∃ hi : i < ks.length, ren (itemsV k ks vs)[i] = ks[i] ++ [58, 32] ++ rv := by
     rcases hcs with ⟨_, h⟩ | ⟨h, _⟩
     ·exact h
     ·exact absurd h6 h
    obtain ⟨gk, ok, ys, rfl, -, hr2, hc2⟩ := HKK.out i hki; have := str_cell hc2; subst this; have e5 := keepc (HOB.out.trans HO.out) (hr2 0 _ rfl); rw [Nat.mul_one, Nat.add_zero] at e5; rw [heq] at hnx hpl
    generalize ks[i] = ki at *
    simp only [List.length_append, List.length_cons, List.length_nil] at hpl; have hkl : ki.length ≤ 1000000000000 := by omega
    have hrl : rv.length ≤ 1000000000000 := by omega
    have HREC := hid (hrec hrl wr HO.out); have HNX := hid hnx; have H6 := hid h6; have HLK6 := hid hlk; clear hrec hnx hcs hr hr2 hc hc2 heq hpl hrv c1 c2 h6 hlk
    by_cases hz : 0 < i
    ·have t2 : decide ((i : Int) > 0) = true := decide_eq_true (by omega)
     go_wp2_with fail
     refine HREC.out.mono ?_
     rintro e w6 ⟨rfl, o6⟩; have HO6 := hid (HO.out.trans o6); clear c0 c3 c4 e0 e1 e2 e3 e4 e5 o6
     go_wp2_with fail
     go_roundw
     case rel => exact ⟨i + 1, by simp, by omega, by rw [HA'.out, HNX.out, if_pos hz]; simp only [← cat_list, ByteArray.append_assoc], HO6⟩
     case measure => simp [intOf]; omega
    ·have t2 : decide ((i : Int) > 0) = false := decide_eq_false (by omega)
     go_wp2_with fail
     refine HREC.out.mono ?_
     rintro e w6 ⟨rfl, o6⟩; have HO6 := hid (HO.out.trans o6); clear c0 c3 c4 e0 e1 e2 e3 e4 e5 o6
     go_wp2_with fail
     go_roundw
     case rel => exact ⟨i + 1, by simp, by omega, by rw [HA'.out, HNX.out, if_neg hz, List.append_nil]; simp only [← cat_list, ByteArray.append_assoc], HO6⟩
     case measure => simp [intOf]; omega
   ·have u6 : ((k : Int) == 6) = false := by simp; omega
    have heq : ren (itemsV k ks vs)[i] = rv := by
     rcases hcs with ⟨h, _⟩ | ⟨_, h⟩
     ·exact absurd h h6
     ·exact h
    rw [heq] at hnx hpl; have HREC := hid (hrec hpl wr HO.out); have HNX := hid hnx; clear hrec hnx hcs hr hc heq hrv c1 c2 c3
    by_cases hz : 0 < i
    ·have t2 : decide ((i : Int) > 0) = true := decide_eq_true (by omega)
     go_wp2_with fail
     refine HREC.out.mono ?_
     rintro e w6 ⟨rfl, o6⟩; have HO6 := hid (HO.out.trans o6); clear c0 c4 e0 e1 e2 e3 e4 o6
     go_wp2_with fail
     go_roundw
     case rel => exact ⟨i + 1, by simp, by omega, by rw [HA'.out, HNX.out, if_pos hz]; simp only [← cat_list, ByteArray.append_assoc], HO6⟩
     case measure => simp [intOf]; omega
    ·have t2 : decide ((i : Int) > 0) = false := decide_eq_false (by omega)
     go_wp2_with fail
     refine HREC.out.mono ?_
     rintro e w6 ⟨rfl, o6⟩; have HO6 := hid (HO.out.trans o6); clear c0 c4 e0 e1 e2 e3 e4 o6
     go_wp2_with fail
     go_roundw
     case rel => exact ⟨i + 1, by simp, by omega, by rw [HA'.out, HNX.out, if_neg hz, List.append_nil]; simp only [← cat_list, ByteArray.append_assoc], HO6⟩
     case measure => simp [intOf]; omega
  ·have t1 : decide ((i : Int) < (L : Int)) = false := decide_eq_false (by omega); have hke : i = L := by omega
   subst hke; have htk : (itemsV k ks vs).take i = itemsV k ks vs := List.take_of_length_le (by rw [HIL.out, HL.out]; omega); rw [htk] at hal ⊢; have HBX := hid (HOB.out.trans HO.out); clear htk
   by_cases h1 : k = 1
   ·have u1 : ((k : Int) == 1) = true := by simp; omega
    have e := HR.out; rw [valI_eq, if_pos h1] at e; have HE := hid (show numS n = R from by rw [← e]; simp [ren, It.src, nuI]); have HN := hid (num_any n n0 n1 wr); clear e h1
    generalize ren (sepI gapI (itemsV k ks vs)) = acc at *
    go_wp2_with fail
    refine HN.out.mono ?_
    rintro e w6 ⟨rfl, o6⟩; have HO6 := hid (HBX.out.trans o6); clear c0 c1 c2 c3 c4 o6
    go_wp2_with fail
    go_ret
    rw [HE.out]; exact ⟨rfl, HO6.out⟩
   by_cases h2 : k = 2
   ·have u1 : ((k : Int) == 1) = false := by simp; omega
    have u2 : ((k : Int) == 2) = true := by simp; omega
    have e := HR.out; rw [valI_eq, if_neg (by omega), if_pos (by omega)] at e; have hq : quoS s = R := by rw [← e]; simp [ren, It.src, quI]
    have hsl : (⟨s.toArray⟩ : ByteArray).size ≤ 1000000000000 := by
     have h1 := escS_ge s; rw [← hq] at hl; simp only [quoS, List.length_cons, List.length_append] at hl
     show s.length ≤ _; omega
    have HE := hid hq; have HN := hid (quote_any ⟨s.toArray⟩ hsl wr); clear e hq hsl h2
    generalize ren (sepI gapI (itemsV k ks vs)) = acc at *
    go_wp2_with fail
    refine HN.out.mono ?_
    rintro e w6 ⟨rfl, o6⟩; have HO6 := hid (HBX.out.trans o6); clear c0 c1 c2 c3 c4 o6
    go_wp2_with fail
    go_ret
    rw [← HE.out]; exact ⟨rfl, HO6.out⟩
   by_cases h8 : k = 8
   ·have u1 : ((k : Int) == 1) = false := by simp; omega
    have u2 : ((k : Int) == 2) = false := by simp; omega
    have u8 : ((k : Int) == 8) = true := by simp; omega
    have e := HR.out; rw [valI_eq, if_neg (by omega), if_pos (by omega)] at e; have hq : quoS s = R := by rw [← e]; simp [ren, It.src, quI]
    have hsl : (⟨s.toArray⟩ : ByteArray).size ≤ 1000000000000 := by
     have h1 := escS_ge s; rw [← hq] at hl; simp only [quoS, List.length_cons, List.length_append] at hl
     show s.length ≤ _; omega
    have HE := hid hq; have HN := hid (quote_any ⟨s.toArray⟩ hsl wr); clear e hq hsl h8
    generalize ren (sepI gapI (itemsV k ks vs)) = acc at *
    go_wp2_with fail
    refine HN.out.mono ?_
    rintro e w6 ⟨rfl, o6⟩; have HO6 := hid (HBX.out.trans o6); clear c0 c1 c2 c3 c4 o6
    go_wp2_with fail
    go_ret
    rw [← HE.out]; exact ⟨rfl, HO6.out⟩
   by_cases h3 : k = 3
   ·have u1 : ((k : Int) == 1) = false := by simp; omega
    have u2 : ((k : Int) == 2) = false := by simp; omega
    have u8 : ((k : Int) == 8) = false := by simp; omega
    have u3 : ((k : Int) == 3) = true := by simp; omega
    have e := HR.out; rw [valI_eq, if_neg (by omega), if_neg (by omega), if_pos h3] at e
    generalize ren (sepI gapI (itemsV k ks vs)) = acc at *
    clear h3
    by_cases hn1 : n = 1
    ·have v1 : (n == 1) = true := by simp; omega
     have HE := hid (show [116, 114, 117, 101] = R from by rw [← e, if_pos hn1]; rfl); clear e hn1
     go_wp2_with fail
     clear c0 c1 c2 c3 c4
     go_ret
     rw [← HE.out]; exact ⟨rfl, HBX.out⟩
    ·have v1 : (n == 1) = false := by simp; omega
     have HE := hid (show [102, 97, 108, 115, 101] = R from by rw [← e, if_neg hn1]; rfl); clear e
     go_wp2_with fail
     clear c0 c1 c2 c3 c4
     go_ret
     rw [← HE.out]; exact ⟨rfl, HBX.out⟩
   by_cases h4 : k = 4
   ·have u1 : ((k : Int) == 1) = false := by simp; omega
    have u2 : ((k : Int) == 2) = false := by simp; omega
    have u8 : ((k : Int) == 8) = false := by simp; omega
    have u3 : ((k : Int) == 3) = false := by simp; omega
    have u4 : ((k : Int) == 4) = true := by simp; omega
    have e := HR.out; rw [valI_eq, if_neg (by omega), if_neg (by omega), if_neg (by omega), if_pos h4] at e; have HE := hid (show s = R from by rw [← e]; simp [ren, It.src, nmI]); have hrl := hl; rw [← HE.out] at hrl
    try simp only [List.length_append, List.length_cons, List.length_nil] at hrl
    clear e h4
    generalize ren (sepI gapI (itemsV k ks vs)) = acc at *
    go_wp2_with fail
    clear c0 c1 c2 c3 c4
    go_ret
    rw [← HE.out]; exact ⟨rfl, HBX.out⟩
   by_cases h7 : k = 7
   ·have u1 : ((k : Int) == 1) = false := by simp; omega
    have u2 : ((k : Int) == 2) = false := by simp; omega
    have u8 : ((k : Int) == 8) = false := by simp; omega
    have u3 : ((k : Int) == 3) = false := by simp; omega
    have u4 : ((k : Int) == 4) = false := by simp; omega
    have u7 : ((k : Int) == 7) = true := by simp; omega
    have e := HR.out; rw [valI_eq, if_neg (by omega), if_neg (by omega), if_neg (by omega), if_neg (by omega), if_pos h7] at e; have HE := hid (show [36] ++ s = R from by rw [← e]; simp [ren, It.src, nmI, sgI]); have hrl := hl; rw [← HE.out] at hrl
    try simp only [List.length_append, List.length_cons, List.length_nil] at hrl
    clear e h7
    generalize ren (sepI gapI (itemsV k ks vs)) = acc at *
    go_wp2_with fail
    clear c0 c1 c2 c3 c4
    go_ret
    rw [← HE.out]; simp only [← cat_list]; exact ⟨rfl, HBX.out⟩
   by_cases h5 : k = 5
   ·have u1 : ((k : Int) == 1) = false := by simp; omega
    have u2 : ((k : Int) == 2) = false := by simp; omega
    have u8 : ((k : Int) == 8) = false := by simp; omega
    have u3 : ((k : Int) == 3) = false := by simp; omega
    have u4 : ((k : Int) == 4) = false := by simp; omega
    have u7 : ((k : Int) == 7) = false := by simp; omega
    have u5 : ((k : Int) == 5) = true := by simp; omega
    have e := HR.out; rw [valI_eq, if_neg (by omega), if_neg (by omega), if_neg (by omega), if_neg (by omega), if_neg (by omega), if_pos h5] at e; have HE := hid (show [91] ++ ren (sepI gapI (itemsV k ks vs)) ++ [93] = R from by rw [← e]; rw [ren_cons, ren_app]; simp [itemsV, h5, ren, It.src, sgI]); have hrl := hl; rw [← HE.out] at hrl
    try simp only [List.length_append, List.length_cons, List.length_nil] at hrl
    clear e h5
    generalize ren (sepI gapI (itemsV k ks vs)) = acc at *
    go_wp2_with fail
    clear c0 c1 c2 c3 c4
    go_ret
    rw [← HE.out]; simp only [← cat_list]; exact ⟨rfl, HBX.out⟩
   by_cases h6 : k = 6
   ·have u1 : ((k : Int) == 1) = false := by simp; omega
    have u2 : ((k : Int) == 2) = false := by simp; omega
    have u8 : ((k : Int) == 8) = false := by simp; omega
    have u3 : ((k : Int) == 3) = false := by simp; omega
    have u4 : ((k : Int) == 4) = false := by simp; omega
    have u7 : ((k : Int) == 7) = false := by simp; omega
    have u5 : ((k : Int) == 5) = false := by simp; omega
    have u6 : ((k : Int) == 6) = true := by simp; omega
    have e := HR.out; rw [valI_eq, if_neg (by omega), if_neg (by omega), if_neg (by omega), if_neg (by omega), if_neg (by omega), if_neg (by omega), if_pos h6] at e; have HE := hid (show [123] ++ ren (sepI gapI (itemsV k ks vs)) ++ [125] = R from by rw [← e]; rw [ren_cons, ren_app]; simp [itemsV, h6, ren, It.src, sgI]); have hrl := hl; rw [← HE.out] at hrl
    try simp only [List.length_append, List.length_cons, List.length_nil] at hrl
    clear e h6
    generalize ren (sepI gapI (itemsV k ks vs)) = acc at *
    go_wp2_with fail
    clear c0 c1 c2 c3 c4
    go_ret
    rw [← HE.out]; simp only [← cat_list]; exact ⟨rfl, HBX.out⟩
   have u1 : ((k : Int) == 1) = false := by simp; omega
   have u2 : ((k : Int) == 2) = false := by simp; omega
   have u8 : ((k : Int) == 8) = false := by simp; omega
   have u3 : ((k : Int) == 3) = false := by simp; omega
   have u4 : ((k : Int) == 4) = false := by simp; omega
   have u7 : ((k : Int) == 7) = false := by simp; omega
   have u5 : ((k : Int) == 5) = false := by simp; omega
   have u6 : ((k : Int) == 6) = false := by simp; omega
   have e := HR.out; rw [valI_eq, if_neg (by omega), if_neg (by omega), if_neg (by omega), if_neg (by omega), if_neg (by omega), if_neg (by omega), if_neg (by omega)] at e; have HE := hid (show [110, 117, 108, 108] = R from by rw [← e]; rfl); clear e
   generalize ren (sepI gapI (itemsV k ks vs)) = acc at *
   go_wp2_with fail
   clear c0 c1 c2 c3 c4
   go_ret
   rw [← HE.out]; exact ⟨rfl, HBX.out⟩
end Go.Proofs.YtnkpoddbbdmipaaGreatDoor
