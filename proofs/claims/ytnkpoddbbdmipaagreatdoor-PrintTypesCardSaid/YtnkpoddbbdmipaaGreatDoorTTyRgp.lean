/- . -/
import Derived.Test.YtnkpoddbbdmipaaGreatDoorTTyRgn
import Derived.Test.YtnkpoddbbdmipaaGreatDoorTTyTdk
namespace Go.Proofs.YtnkpoddbbdmipaaGreatDoor
open Go Go.RowKit
open Go.Lib (hid)
set_option linter.unusedVariables false
set_option linter.unusedSimpArgs false
def tdF (v : Value) : Prop := ∃ (k : Nat) (s0 : List UInt8) (a0 : Option Addr) (l0 e0 : Nat) (a1 : Option Addr) (l1 e1 : Nat), v = .agg #[.int .u8 (k : Int), .string ⟨s0.toArray⟩, .slice a0 l0 e0, .slice a1 l1 e1]
theorem isT_word {w : World} {b : Nat} {all : RL} {r : List Tok} (h : Rf w b all (.ok () r)) (c : UInt8) (l : List UInt8) (hc : letB c = true) {x : Bool} (hx : isT (c :: l) r = x) : tst (.ok () r : PR Unit) (isW (c :: l)) = x := by
 rw [← h.word c l hc]; exact hx
theorem isT_kind {s : List UInt8} {r : List Tok} (h : isT s r = true) : isK 0 r = false := by
 cases r with
 | nil => rfl
 | cons t r' =>
  refine decide_eq_false (fun h0 => ?_)
  have hb : (decide (t.kind = 4) && decide (t.text = s) || decide (t.kind = 1) && decide (t.text = s)) = true := h; rw [h0] at hb; simp at hb
theorem ofF_cells (l : List IN) : l.map inC = (l.map FD.of).map fdC := by rw [List.map_map]; rfl
set_option maxRecDepth 100000 in
set_option maxHeartbeats 8000000 in
theorem fone_4 (b : Nat) (all : RL) (hdp : all.dp = 0) (r : List Tok) (hf : ∀ i, i < 4 → isT (wordK i) r = false) (hy : isT (wordK 4) r = true) (w : World) (h : Rf w b all (.ok () r)) :
  Calls Tryz.prog 62 #[.pointer (some ⟨b, 0, none⟩)] w (FAns w b all (.ok () r) (fun w' x v => aggP w.heap.size tdC w' x v) tdF tdP) := by
 have hbl := h.lt; obtain ⟨B, hB⟩ := eX (w.heap.size); have hbB : b < B := by omega
 obtain ⟨σ0, hs0⟩ : ∃ σ : PR Unit, PR.ok () r.tail = σ := ⟨_, rfl⟩; obtain ⟨total, htot⟩ := eX (tdP r); have hj := Jn.start σ0 td5; rw [← hs0, show ((PR.ok () r.tail : PR Unit).bind fun _ => td5) = total from by rw [← htot, td_yes (j := 4) (by omega) hf hy]; rfl, hs0] at hj; have HP : ∀ w' v, tdF v → Rf w' b all total.unit → (∀ x q, total = .ok x q → aggP B tdC w' x v) → Only (fun k => k = b) w w' → FAns w b all (.ok () r) (fun w' x v => aggP w.heap.size tdC w' x v) tdF tdP (.returned v) w' := fun w' v q1 q2 q3 q4 => ⟨v, rfl, q1, by rw [show ((PR.ok () r : PR Unit).bind fun _ => tdP) = total from htot]; exact q2, fun x q e => by rw [hB]; exact q3 x q (by rw [← htot]; exact e), q4⟩
 obtain ⟨w0, hw0⟩ := eX (w.alloc (.cells #[.int .u8 0, .string ⟨#[]⟩, .slice none 0 0, .slice none 0 0] 99)); have hr0 : w0.heap[B]? = some (.cells #[.int .u8 0, .string ⟨#[]⟩, .slice none 0 0, .slice none 0 0] 99 (0, 0)) := by rw [← hw0, ← hB]; exact heap_new _ _
 have ho0 : Only (fun k => k = b) w w0 := by rw [← hw0]; exact (Only.refl _ w).alloc _
 have h0 : Rf w0 b all (.ok () r) := by rw [← hw0]; exact h.still ((Only.refl (fun _ => False) w).alloc _)
 have HPP := hid HP; have HJ0 := hid hj; have HR0 := hid hr0; have HD0 := hid h0; have HO0 := hid ho0; have HW0 := hid hw0; have HBB := hid hB; have HWB := hid (show w.heap.size ≤ B by omega); have hk0 : isK 0 r = false := isT_kind hy; have HDZ := hid hdp; have HF := hid hf; have HY_ := hid hy; have HK0 := hid hk0; have HS0 := hid hs0; clear HP hj hr0 h0 ho0 hw0 htot h hf hy hdp hs0 hk0
 generalize (FAns w b all (.ok () r) (fun w' x v => aggP w.heap.size tdC w' x v) tdF tdP) = Q at *
 clear hB hbl
 go_enter Tryz.func62, Tryz.ntmps62
 go_upto_region 1 with (fail)
 rw [HBB.out, HW0.out]; clear HW0 HBB; have hsz1 : B < w0.heap.size := (gE HR0.out).1; obtain ⟨Y, hY⟩ := eX (w0.heap.size); obtain ⟨w1, hw1⟩ := eX (w0.alloc (.cells #[.int .u8 0, .string ⟨#[]⟩, .slice none 0 0, .slice none 0 0] 99)); have hy1 : w1.heap[Y]? = some (.cells #[.int .u8 0, .string ⟨#[]⟩, .slice none 0 0, .slice none 0 0] 99 (0, 0)) := by rw [← hw1, ← hY]; exact heap_new _ _
 have hr1 : w1.heap[B]? = some (.cells #[.int .u8 0, .string ⟨#[]⟩, .slice none 0 0, .slice none 0 0] 99 (0, 0)) := by rw [← hw1]; exact heap_old HR0.out _
 have oa1 : Only (fun _ => False) w0 w1 := by rw [← hw1]; exact (Only.refl _ _).alloc _
 rw [hY] at hsz1; have HY1 := hid hy1; have HR1 := hid hr1; have HD1 := hid (HD0.out.still oa1); have HO1 := hid (HO0.out.trans' oa1 (fun q _ e => e.elim)); have HW1 := hid hw1; have HYY := hid hY; have HJ1 := HJ0; clear hy1 hr1 hw1 hY oa1 HR0 HD0 HO0 HJ0
 go_upto_region 4 with (fail)
 rw [HYY.out, HW1.out]; clear HYY HW1; have J := hid (fWord_any b all (.ok () r) [116, 121, 112, 101] w1 HD1.out); rw [isT_word HD1.out 116 [121, 112, 101] (by decide) (x := false) (HF.out 0 (by omega))] at J
 go_wp2_with fail
 refine J.out.mono ?_
 rintro e w2 ⟨rfl, o4⟩; have HD2 := hid (HD1.out.still o4); have HJ2 := HJ1; clear J HJ1; have hr2 := kB o4 HR1.out (fun h => h); have HR2 := hid hr2; have hy2 := kB o4 HY1.out (fun h => h); have HY2 := hid hy2; have HO2 := hid (HO1.out.trans' o4 (fun q hq e => by exact e.elim)); clear hr2 hy2; clear o4; clear HR1 HO1 HD1 HY1; have J := hid (fWord_any b all (.ok () r) [105, 110, 116, 101, 114, 102, 97, 99, 101] w2 HD2.out); rw [isT_word HD2.out 105 [110, 116, 101, 114, 102, 97, 99, 101] (by decide) (x := false) (HF.out 1 (by omega))] at J
 go_wp2_with fail
 refine J.out.mono ?_
 rintro e w3 ⟨rfl, o4⟩; have HD3 := hid (HD2.out.still o4); have HJ3 := HJ2; clear J HJ2; have hr3 := kB o4 HR2.out (fun h => h); have HR3 := hid hr3; have hy3 := kB o4 HY2.out (fun h => h); have HY3 := hid hy3; have HO3 := hid (HO2.out.trans' o4 (fun q hq e => by exact e.elim)); clear hr3 hy3; clear o4; clear HR2 HO2 HD2 HY2; have J := hid (fWord_any b all (.ok () r) [117, 110, 105, 111, 110] w3 HD3.out); rw [isT_word HD3.out 117 [110, 105, 111, 110] (by decide) (x := false) (HF.out 2 (by omega))] at J
 go_wp2_with fail
 refine J.out.mono ?_
 rintro e w4 ⟨rfl, o4⟩; have HD4 := hid (HD3.out.still o4); have HJ4 := HJ3; clear J HJ3; have hr4 := kB o4 HR3.out (fun h => h); have HR4 := hid hr4; have hy4 := kB o4 HY3.out (fun h => h); have HY4 := hid hy4; have HO4 := hid (HO3.out.trans' o4 (fun q hq e => by exact e.elim)); clear hr4 hy4; clear o4; clear HR3 HO3 HD3 HY3; have J := hid (fWord_any b all (.ok () r) [101, 110, 117, 109] w4 HD4.out); rw [isT_word HD4.out 101 [110, 117, 109] (by decide) (x := false) (HF.out 3 (by omega))] at J
 go_wp2_with fail
 refine J.out.mono ?_
 rintro e w5 ⟨rfl, o4⟩; have HD5 := hid (HD4.out.still o4); have HJ5 := HJ4; clear J HJ4; have hr5 := kB o4 HR4.out (fun h => h); have HR5 := hid hr5; have hy5 := kB o4 HY4.out (fun h => h); have HY5 := hid hy5; have HO5 := hid (HO4.out.trans' o4 (fun q hq e => by exact e.elim)); clear hr5 hy5; clear o4; clear HR4 HO4 HD4 HY4; have J := hid (fWord_any b all (.ok () r) [105, 110, 112, 117, 116] w5 HD5.out); rw [isT_word HD5.out 105 [110, 112, 117, 116] (by decide) (x := true) (HY_.out)] at J
 go_wp2_with fail
 refine J.out.mono ?_
 rintro e w6 ⟨rfl, o4⟩; have HD6 := hid (HD5.out.still o4); have HJ6 := HJ5; clear J HJ5; have hr6 := kB o4 HR5.out (fun h => h); have HR6 := hid hr6; have hy6 := kB o4 HY5.out (fun h => h); have HY6 := hid hy6; have HO6 := hid (HO5.out.trans' o4 (fun q hq e => by exact e.elim)); clear hr6 hy6; clear o4; clear HR5 HO5 HD5 HY5; obtain ⟨y0, y1, y2, y3, yz⟩ := boxN4 HY6.out
 go_upto_region 14 with (fail)
 clear y0 y1 y2 y3 yz; have hy7 := heap_set (o := 0) HY6.out (.int .u8 5); have hy7 : (w6.setCell ⟨Y, 0, none⟩ (.int .u8 5)).heap[Y]? = some (.cells #[.int .u8 5, .string ⟨#[]⟩, .slice none 0 0, .slice none 0 0] 99 (0, 0)) := by simpa using hy7
 have os7 : Only (fun k => k = Y) w6 (w6.setCell ⟨Y, 0, none⟩ (.int .u8 5)) := (Only.refl (fun k => k = Y) _).setCell (p := ⟨Y, 0, none⟩) (.inl rfl) _; obtain ⟨w7, hw7⟩ := eX (w6.setCell ⟨Y, 0, none⟩ (.int .u8 5)); rw [hw7] at hy7 os7; rw [hw7]; clear hw7; have HY7 := hid hy7; have HD7 := hid (HD6.out.only os7 (fun k hk e => by omega)); have HJ7 := HJ6; have hr7 := kB os7 HR6.out (by omega); have HR7 := hid hr7; have HO7 := hid (HO6.out.trans' os7 (fun q hq e => by have e : q = Y := e; have := HWB.out; omega)); clear hr7; clear hy7 os7 HJ6; clear HR6 HO6 HD6 HY6; obtain ⟨_, _, _, _, _, _, _, j, bdj, e0, e1, e2, e3, e4, ez, jlt, jc, jN, -⟩ := HD7.out.next; have jlt2 : (j : Int) + 1 ≤ 1000000 := by omega
 have hdj := HD7.out.step HK0.out e1; have oj : Only (fun k => k = b) w7 (w7.setCell ⟨b, 1, none⟩ (.int .i64 ((j : Int) + 1))) := (Only.refl (fun k => k = b) w7).setCell (.inl rfl) _; obtain ⟨w8, hwj⟩ := eX (w7.setCell ⟨b, 1, none⟩ (.int .i64 ((j : Int) + 1))); rw [hwj] at hdj oj; rw [HS0.out] at hdj; have HDJ := hid hdj; have HWJ := hid hwj; have OJ := hid oj; clear hdj hwj oj
 go_upto_region 15 with (fail)
 rw [HWJ.out]; clear HWJ e0 e1 e2 e3 e4 ez jlt jc jN jlt2; have HD8 := HDJ; have HJ8 := HJ7; have hr8 := (OJ.out.block B (gE HR7.out).1 (by omega)).trans HR7.out; have HR8 := hid hr8; have hy8 := (OJ.out.block Y (gE HY7.out).1 (by omega)).trans HY7.out; have HY8 := hid hy8; have HO8 := hid (HO7.out.trans' OJ.out (fun q hq e => by exact e)); clear hr8 hy8; clear OJ HDJ HJ7; clear HR7 HO7 HD7 HY7; have J := hid (fName_any b all σ0 w8 HD8.out)
 go_wp2_with fail
 refine J.out.mono ?_
 rintro e w9 ⟨v, rfl, ⟨s9, rfl⟩, hd, hv, o4⟩; have hv : ∀ x q, (σ0.bind fun _ => nameP) = .ok x q → s9 = x := fun x q e => strF_inj (hv x q e)
 obtain ⟨σ9, hσ⟩ := eX ((σ0.bind fun _ => nameP).unit); rw [hσ] at hd; have hj := Jn.call (fun x => s9 = x) HJ8.out hσ.symm hv; have HJ9 := hid hj; have HD9 := hid hd; clear hj hd hv hσ HJ8 J; have hr9 := kB o4 HR8.out (by omega); have HR9 := hid hr9; have hy9 := kB o4 HY8.out (by omega); have HY9 := hid hy9; have HO9 := hid (HO8.out.trans' o4 (fun q hq e => by exact e)); clear hr9 hy9; clear o4; clear HR8 HO8 HD8 HY8; obtain ⟨y0, y1, y2, y3, yz⟩ := boxN4 HY9.out
 go_upto_region 16 with (fail)
 clear y0 y1 y2 y3 yz; have hy10 := heap_set (o := 1) HY9.out (.string ⟨s9.toArray⟩); have hy10 : (w9.setCell ⟨Y, 1, none⟩ (.string ⟨s9.toArray⟩)).heap[Y]? = some (.cells #[.int .u8 5, .string ⟨s9.toArray⟩, .slice none 0 0, .slice none 0 0] 99 (0, 0)) := by simpa using hy10
 have os10 : Only (fun k => k = Y) w9 (w9.setCell ⟨Y, 1, none⟩ (.string ⟨s9.toArray⟩)) := (Only.refl (fun k => k = Y) _).setCell (p := ⟨Y, 1, none⟩) (.inl rfl) _; obtain ⟨w10, hw10⟩ := eX (w9.setCell ⟨Y, 1, none⟩ (.string ⟨s9.toArray⟩)); rw [hw10] at hy10 os10; rw [hw10]; clear hw10; have HY10 := hid hy10; have HD10 := hid (HD9.out.only os10 (fun k hk e => by omega)); have HJ10 := HJ9; have hr10 := kB os10 HR9.out (by omega); have HR10 := hid hr10; have HO10 := hid (HO9.out.trans' os10 (fun q hq e => by have e : q = Y := e; have := HWB.out; omega)); clear hr10; clear hy10 os10 HJ9; clear HR9 HO9 HD9 HY9; obtain ⟨y0, y1, y2, y3, yz⟩ := boxN4 HY10.out
 go_upto_region 41 with (fail)
 clear y0 y1 y2 y3 yz; have J := hid (fMust_any b all σ9 [123] w10 HD10.out)
 go_wp2_with fail
 refine J.out.mono ?_
 rintro e w11 ⟨rfl, hd, o4⟩; have hv : ∀ x q, (σ9.bind fun _ => wantP [123]) = .ok x q → True := fun _ _ _ => trivial
 obtain ⟨σ11, hσ⟩ := eX ((σ9.bind fun _ => wantP [123]).unit); rw [hσ] at hd; have hj := Jn.call (fun _ => True) HJ10.out hσ.symm hv; have HJ11 := hid hj; have HD11 := hid hd; clear hj hd hv hσ HJ10 J; have hr11 := kB o4 HR10.out (by omega); have HR11 := hid hr11; have hy11 := kB o4 HY10.out (by omega); have HY11 := hid hy11; have HO11 := hid (HO10.out.trans' o4 (fun q hq e => by exact e)); clear hr11 hy11; clear o4; clear HR10 HO10 HD10 HY10; have J := hid (finputs_any b all HDZ.out σ11 [125] w11 HD11.out)
 go_wp2_with fail
 refine J.out.mono ?_
 rintro e w12 ⟨v, rfl, ⟨ar12, lr12, cr12, rfl⟩, hd, hv, o4⟩; have hsy : Y < w11.heap.size := (gE HY11.out).1; have hv : ∀ x q, (σ11.bind fun _ => (fun r => manyP inP [125] (r.length + 1) [] r)) = .ok x q → CellAt w12 (fun q => Y < q) (.row 11 (x.map inC)) (.slice ar12 lr12 cr12) := fun x q e => CellAt.weaken (fun q _ h => by have h : w11.heap.size ≤ q := h; show Y < q; omega) _ _ (hv x q e)
 obtain ⟨σ12, hσ⟩ := eX ((σ11.bind fun _ => (fun r => manyP inP [125] (r.length + 1) [] r)).unit); rw [hσ] at hd; have hj := Jn.call (fun x => CellAt w12 (fun q => Y < q) (.row 11 (x.map inC)) (.slice ar12 lr12 cr12)) HJ11.out hσ.symm hv; have HJ12 := hid hj; have HD12 := hid hd; clear hj hd hv hσ HJ11 J hsy; have hr12 := kB o4 HR11.out (by omega); have HR12 := hid hr12; have hy12 := kB o4 HY11.out (by omega); have HY12 := hid hy12; have HO12 := hid (HO11.out.trans' o4 (fun q hq e => by exact e)); clear hr12 hy12; have HC12_12 := hid (Only.refl (fun k => k ≤ Y) w12); clear o4; clear HR11 HO11 HD11 HY11; obtain ⟨y0, y1, y2, y3, yz⟩ := boxN4 HY12.out
 go_upto_region 43 with (fail)
 clear y0 y1 y2 y3 yz; have hy13 := heap_set (o := 2) HY12.out (.slice ar12 lr12 cr12); have hy13 : (w12.setCell ⟨Y, 2, none⟩ (.slice ar12 lr12 cr12)).heap[Y]? = some (.cells #[.int .u8 5, .string ⟨s9.toArray⟩, .slice ar12 lr12 cr12, .slice none 0 0] 99 (0, 0)) := by simpa using hy13
 have os13 : Only (fun k => k = Y) w12 (w12.setCell ⟨Y, 2, none⟩ (.slice ar12 lr12 cr12)) := (Only.refl (fun k => k = Y) _).setCell (p := ⟨Y, 2, none⟩) (.inl rfl) _; obtain ⟨w13, hw13⟩ := eX (w12.setCell ⟨Y, 2, none⟩ (.slice ar12 lr12 cr12)); rw [hw13] at hy13 os13; rw [hw13]; clear hw13; have HY13 := hid hy13; have HD13 := hid (HD12.out.only os13 (fun k hk e => by omega)); have HJ13 := HJ12; have hr13 := kB os13 HR12.out (by omega); have HR13 := hid hr13; have HC12_13 := hid (HC12_12.out.trans' os13 (fun q hq e => by have e : q = Y := e; show q ≤ Y; omega)); have HO13 := hid (HO12.out.trans' os13 (fun q hq e => by have e : q = Y := e; have := HWB.out; omega)); clear hr13; clear hy13 os13 HJ12; clear HR12 HO12 HD12 HY12 HC12_12; obtain ⟨y0, y1, y2, y3, yz⟩ := boxN4 HY13.out
 go_wp2_with ((refine wpList_store_box (o := ⟨none, _, _, _, _, _⟩) rfl 99 (.tmp 2) (.tmp 136) (by rfl) B [.int .u8 0, .string ⟨#[]⟩, .slice none 0 0, .slice none 0 0] [.int .u8 5, .string ⟨s9.toArray⟩, .slice ar12 lr12 cr12, .slice none 0 0] (by rfl) (by rfl) HR13.out (by rfl) (by kernel_rfl) (by intro u hu; simp at hu; rcases hu with rfl | rfl | rfl | rfl <;> rfl) ?_; intro w9 k1 k2))
 clear y0 y1 y2 y3 yz; obtain ⟨y0, y1, y2, y3, -⟩ := boxN4 k1; obtain ⟨hdn, hxs⟩ := HJ13.out.done; have hd9 : Rf w9 b all total.unit := by rw [← hdn]; exact HD13.out.only k2 (fun k hk e => by omega)
 have o12 := HC12_13.out.trans' k2 (fun q hq e => by have e : q = B := e; show q ≤ Y; omega); have hag : ∀ x q, total = .ok x q → aggP B tdC w9 x (.agg #[.int .u8 5, .string ⟨s9.toArray⟩, .slice ar12 lr12 cr12, .slice none 0 0]) := fun x q e => by
  obtain ⟨⟨⟨⟨u, n1⟩, u2⟩, l1⟩, rfl, ⟨⟨⟨-, k1⟩, -⟩, k3⟩⟩ := hxs x q e; subst k1; exact ⟨_, rfl, CellsAt.lit rfl (CellsAt.lit rfl (CellsAt.cons (by rw [← ofF_cells]; exact CellAt.weaken (G' := fun q => B ≤ q) (fun q _ h => by have h : Y < q := h; show B ≤ q; omega) _ _ (CellAt.only o12 (fun k hk e => by have hk : Y < k := hk; have e : k ≤ Y := e; omega) _ _ k3)) (CellsAt.cons (CellAt.nilRow _ _ _) (CellsAt.nil _ _))))⟩
 exact bodyPost_ret (v := .agg #[.int .u8 5, .string ⟨s9.toArray⟩, .slice ar12 lr12 cr12, .slice none 0 0]) (by simp [results, Tryz.results62, go_sem, y0, y1, y2, y3]) rfl (HPP.out w9 _ ⟨5, s9, ar12, lr12, cr12, none, 0, 0, rfl⟩ hd9 hag (HO13.out.trans' k2 (fun q hq e => by have := HWB.out; omega)))
set_option maxRecDepth 100000 in
set_option maxHeartbeats 40000000 in
theorem fone_2 (b : Nat) (all : RL) (hdp : all.dp = 0) (r : List Tok) (hf : ∀ i, i < 2 → isT (wordK i) r = false) (hy : isT (wordK 2) r = true) (w : World) (h : Rf w b all (.ok () r)) :
  Calls Tryz.prog 62 #[.pointer (some ⟨b, 0, none⟩)] w (FAns w b all (.ok () r) (fun w' x v => aggP w.heap.size tdC w' x v) tdF tdP) := by
 have hbl := h.lt; obtain ⟨B, hB⟩ := eX (w.heap.size); have hbB : b < B := by omega
 obtain ⟨σ0, hs0⟩ : ∃ σ : PR Unit, PR.ok () r.tail = σ := ⟨_, rfl⟩; obtain ⟨total, htot⟩ := eX (tdP r); have hj := Jn.start σ0 td3; rw [← hs0, show ((PR.ok () r.tail : PR Unit).bind fun _ => td3) = total from by rw [← htot, td_yes (j := 2) (by omega) hf hy]; rfl, hs0] at hj; have HP : ∀ w' v, tdF v → Rf w' b all total.unit → (∀ x q, total = .ok x q → aggP B tdC w' x v) → Only (fun k => k = b) w w' → FAns w b all (.ok () r) (fun w' x v => aggP w.heap.size tdC w' x v) tdF tdP (.returned v) w' := fun w' v q1 q2 q3 q4 => ⟨v, rfl, q1, by rw [show ((PR.ok () r : PR Unit).bind fun _ => tdP) = total from htot]; exact q2, fun x q e => by rw [hB]; exact q3 x q (by rw [← htot]; exact e), q4⟩
 obtain ⟨w0, hw0⟩ := eX (w.alloc (.cells #[.int .u8 0, .string ⟨#[]⟩, .slice none 0 0, .slice none 0 0] 99)); have hr0 : w0.heap[B]? = some (.cells #[.int .u8 0, .string ⟨#[]⟩, .slice none 0 0, .slice none 0 0] 99 (0, 0)) := by rw [← hw0, ← hB]; exact heap_new _ _
 have ho0 : Only (fun k => k = b) w w0 := by rw [← hw0]; exact (Only.refl _ w).alloc _
 have h0 : Rf w0 b all (.ok () r) := by rw [← hw0]; exact h.still ((Only.refl (fun _ => False) w).alloc _)
 have HPP := hid HP; have HJ0 := hid hj; have HR0 := hid hr0; have HD0 := hid h0; have HO0 := hid ho0; have HW0 := hid hw0; have HBB := hid hB; have HWB := hid (show w.heap.size ≤ B by omega); have hk0 : isK 0 r = false := isT_kind hy; have HDZ := hid hdp; have HF := hid hf; have HY_ := hid hy; have HK0 := hid hk0; have HS0 := hid hs0; clear HP hj hr0 h0 ho0 hw0 htot h hf hy hdp hs0 hk0
 generalize (FAns w b all (.ok () r) (fun w' x v => aggP w.heap.size tdC w' x v) tdF tdP) = Q at *
 clear hB hbl
 go_enter Tryz.func62, Tryz.ntmps62
 go_upto_region 1 with (fail)
 rw [HBB.out, HW0.out]; clear HW0 HBB; have hsz1 : B < w0.heap.size := (gE HR0.out).1; obtain ⟨Y, hY⟩ := eX (w0.heap.size); obtain ⟨w1, hw1⟩ := eX (w0.alloc (.cells #[.int .u8 0, .string ⟨#[]⟩, .slice none 0 0, .slice none 0 0] 99)); have hy1 : w1.heap[Y]? = some (.cells #[.int .u8 0, .string ⟨#[]⟩, .slice none 0 0, .slice none 0 0] 99 (0, 0)) := by rw [← hw1, ← hY]; exact heap_new _ _
 have hr1 : w1.heap[B]? = some (.cells #[.int .u8 0, .string ⟨#[]⟩, .slice none 0 0, .slice none 0 0] 99 (0, 0)) := by rw [← hw1]; exact heap_old HR0.out _
 have oa1 : Only (fun _ => False) w0 w1 := by rw [← hw1]; exact (Only.refl _ _).alloc _
 rw [hY] at hsz1; have HY1 := hid hy1; have HR1 := hid hr1; have HD1 := hid (HD0.out.still oa1); have HO1 := hid (HO0.out.trans' oa1 (fun q _ e => e.elim)); have HW1 := hid hw1; have HYY := hid hY; have HJ1 := HJ0; clear hy1 hr1 hw1 hY oa1 HR0 HD0 HO0 HJ0
 go_upto_region 4 with (fail)
 rw [HYY.out, HW1.out]; clear HYY HW1; have J := hid (fWord_any b all (.ok () r) [116, 121, 112, 101] w1 HD1.out); rw [isT_word HD1.out 116 [121, 112, 101] (by decide) (x := false) (HF.out 0 (by omega))] at J
 go_wp2_with fail
 refine J.out.mono ?_
 rintro e w2 ⟨rfl, o4⟩; have HD2 := hid (HD1.out.still o4); have HJ2 := HJ1; clear J HJ1; have hr2 := kB o4 HR1.out (fun h => h); have HR2 := hid hr2; have hy2 := kB o4 HY1.out (fun h => h); have HY2 := hid hy2; have HO2 := hid (HO1.out.trans' o4 (fun q hq e => by exact e.elim)); clear hr2 hy2; clear o4; clear HR1 HO1 HD1 HY1; have J := hid (fWord_any b all (.ok () r) [105, 110, 116, 101, 114, 102, 97, 99, 101] w2 HD2.out); rw [isT_word HD2.out 105 [110, 116, 101, 114, 102, 97, 99, 101] (by decide) (x := false) (HF.out 1 (by omega))] at J
 go_wp2_with fail
 refine J.out.mono ?_
 rintro e w3 ⟨rfl, o4⟩; have HD3 := hid (HD2.out.still o4); have HJ3 := HJ2; clear J HJ2; have hr3 := kB o4 HR2.out (fun h => h); have HR3 := hid hr3; have hy3 := kB o4 HY2.out (fun h => h); have HY3 := hid hy3; have HO3 := hid (HO2.out.trans' o4 (fun q hq e => by exact e.elim)); clear hr3 hy3; clear o4; clear HR2 HO2 HD2 HY2; have J := hid (fWord_any b all (.ok () r) [117, 110, 105, 111, 110] w3 HD3.out); rw [isT_word HD3.out 117 [110, 105, 111, 110] (by decide) (x := true) (HY_.out)] at J
 go_wp2_with fail
 refine J.out.mono ?_
 rintro e w4 ⟨rfl, o4⟩; have HD4 := hid (HD3.out.still o4); have HJ4 := HJ3; clear J HJ3; have hr4 := kB o4 HR3.out (fun h => h); have HR4 := hid hr4; have hy4 := kB o4 HY3.out (fun h => h); have HY4 := hid hy4; have HO4 := hid (HO3.out.trans' o4 (fun q hq e => by exact e.elim)); clear hr4 hy4; clear o4; clear HR3 HO3 HD3 HY3; obtain ⟨y0, y1, y2, y3, yz⟩ := boxN4 HY4.out
 go_upto_region 14 with (fail)
 clear y0 y1 y2 y3 yz; have hy5 := heap_set (o := 0) HY4.out (.int .u8 3); have hy5 : (w4.setCell ⟨Y, 0, none⟩ (.int .u8 3)).heap[Y]? = some (.cells #[.int .u8 3, .string ⟨#[]⟩, .slice none 0 0, .slice none 0 0] 99 (0, 0)) := by simpa using hy5
 have os5 : Only (fun k => k = Y) w4 (w4.setCell ⟨Y, 0, none⟩ (.int .u8 3)) := (Only.refl (fun k => k = Y) _).setCell (p := ⟨Y, 0, none⟩) (.inl rfl) _; obtain ⟨w5, hw5⟩ := eX (w4.setCell ⟨Y, 0, none⟩ (.int .u8 3)); rw [hw5] at hy5 os5; rw [hw5]; clear hw5; have HY5 := hid hy5; have HD5 := hid (HD4.out.only os5 (fun k hk e => by omega)); have HJ5 := HJ4; have hr5 := kB os5 HR4.out (by omega); have HR5 := hid hr5; have HO5 := hid (HO4.out.trans' os5 (fun q hq e => by have e : q = Y := e; have := HWB.out; omega)); clear hr5; clear hy5 os5 HJ4; clear HR4 HO4 HD4 HY4; obtain ⟨_, _, _, _, _, _, _, j, bdj, e0, e1, e2, e3, e4, ez, jlt, jc, jN, -⟩ := HD5.out.next; have jlt2 : (j : Int) + 1 ≤ 1000000 := by omega
 have hdj := HD5.out.step HK0.out e1; have oj : Only (fun k => k = b) w5 (w5.setCell ⟨b, 1, none⟩ (.int .i64 ((j : Int) + 1))) := (Only.refl (fun k => k = b) w5).setCell (.inl rfl) _; obtain ⟨w6, hwj⟩ := eX (w5.setCell ⟨b, 1, none⟩ (.int .i64 ((j : Int) + 1))); rw [hwj] at hdj oj; rw [HS0.out] at hdj; have HDJ := hid hdj; have HWJ := hid hwj; have OJ := hid oj; clear hdj hwj oj
 go_upto_region 15 with (fail)
 rw [HWJ.out]; clear HWJ e0 e1 e2 e3 e4 ez jlt jc jN jlt2; have HD6 := HDJ; have HJ6 := HJ5; have hr6 := (OJ.out.block B (gE HR5.out).1 (by omega)).trans HR5.out; have HR6 := hid hr6; have hy6 := (OJ.out.block Y (gE HY5.out).1 (by omega)).trans HY5.out; have HY6 := hid hy6; have HO6 := hid (HO5.out.trans' OJ.out (fun q hq e => by exact e)); clear hr6 hy6; clear OJ HDJ HJ5; clear HR5 HO5 HD5 HY5; have J := hid (fName_any b all σ0 w6 HD6.out)
 go_wp2_with fail
 refine J.out.mono ?_
 rintro e w7 ⟨v, rfl, ⟨s7, rfl⟩, hd, hv, o4⟩; have hv : ∀ x q, (σ0.bind fun _ => nameP) = .ok x q → s7 = x := fun x q e => strF_inj (hv x q e)
 obtain ⟨σ7, hσ⟩ := eX ((σ0.bind fun _ => nameP).unit); rw [hσ] at hd; have hj := Jn.call (fun x => s7 = x) HJ6.out hσ.symm hv; have HJ7 := hid hj; have HD7 := hid hd; clear hj hd hv hσ HJ6 J; have hr7 := kB o4 HR6.out (by omega); have HR7 := hid hr7; have hy7 := kB o4 HY6.out (by omega); have HY7 := hid hy7; have HO7 := hid (HO6.out.trans' o4 (fun q hq e => by exact e)); clear hr7 hy7; clear o4; clear HR6 HO6 HD6 HY6; obtain ⟨y0, y1, y2, y3, yz⟩ := boxN4 HY7.out
 go_upto_region 16 with (fail)
 clear y0 y1 y2 y3 yz; have hy8 := heap_set (o := 1) HY7.out (.string ⟨s7.toArray⟩); have hy8 : (w7.setCell ⟨Y, 1, none⟩ (.string ⟨s7.toArray⟩)).heap[Y]? = some (.cells #[.int .u8 3, .string ⟨s7.toArray⟩, .slice none 0 0, .slice none 0 0] 99 (0, 0)) := by simpa using hy8
 have os8 : Only (fun k => k = Y) w7 (w7.setCell ⟨Y, 1, none⟩ (.string ⟨s7.toArray⟩)) := (Only.refl (fun k => k = Y) _).setCell (p := ⟨Y, 1, none⟩) (.inl rfl) _; obtain ⟨w8, hw8⟩ := eX (w7.setCell ⟨Y, 1, none⟩ (.string ⟨s7.toArray⟩)); rw [hw8] at hy8 os8; rw [hw8]; clear hw8; have HY8 := hid hy8; have HD8 := hid (HD7.out.only os8 (fun k hk e => by omega)); have HJ8 := HJ7; have hr8 := kB os8 HR7.out (by omega); have HR8 := hid hr8; have HO8 := hid (HO7.out.trans' os8 (fun q hq e => by have e : q = Y := e; have := HWB.out; omega)); clear hr8; clear hy8 os8 HJ7; clear HR7 HO7 HD7 HY7; obtain ⟨y0, y1, y2, y3, yz⟩ := boxN4 HY8.out
 go_upto_region 30 with (fail)
 clear y0 y1 y2 y3 yz; have J := hid (fMust_any b all σ7 [61] w8 HD8.out)
 go_wp2_with fail
 refine J.out.mono ?_
 rintro e w9 ⟨rfl, hd, o4⟩; have hv : ∀ x q, (σ7.bind fun _ => wantP [61]) = .ok x q → True := fun _ _ _ => trivial
 obtain ⟨σ9, hσ⟩ := eX ((σ7.bind fun _ => wantP [61]).unit); rw [hσ] at hd; have hj := Jn.call (fun _ => True) HJ8.out hσ.symm hv; have HJ9 := hid hj; have HD9 := hid hd; clear hj hd hv hσ HJ8 J; have hr9 := kB o4 HR8.out (by omega); have HR9 := hid hr9; have hy9 := kB o4 HY8.out (by omega); have HY9 := hid hy9; have HO9 := hid (HO8.out.trans' o4 (fun q hq e => by exact e)); clear hr9 hy9; clear o4; clear HR8 HO8 HD8 HY8; have J := hid (fnames_any [124] b all σ9 w9 HD9.out)
 go_wp2_with fail
 refine J.out.mono ?_
 rintro e w10 ⟨v, rfl, ⟨ar10, lr10, cr10, rfl⟩, hd, hv, o4⟩; have hsy : Y < w9.heap.size := (gE HY9.out).1; have hv : ∀ x q, (σ9.bind fun _ => namesP [124]) = .ok x q → CellAt w10 (fun q => Y < q) (.row 1 (x.map (fun s => [strC s]))) (.slice ar10 lr10 cr10) := fun x q e => CellAt.weaken (fun q _ h => by have h : w9.heap.size ≤ q := h; show Y < q; omega) _ _ (hv x q e)
 obtain ⟨σ10, hσ⟩ := eX ((σ9.bind fun _ => namesP [124]).unit); rw [hσ] at hd; have hj := Jn.call (fun x => CellAt w10 (fun q => Y < q) (.row 1 (x.map (fun s => [strC s]))) (.slice ar10 lr10 cr10)) HJ9.out hσ.symm hv; have HJ10 := hid hj; have HD10 := hid hd; clear hj hd hv hσ HJ9 J hsy; have hr10 := kB o4 HR9.out (by omega); have HR10 := hid hr10; have hy10 := kB o4 HY9.out (by omega); have HY10 := hid hy10; have HO10 := hid (HO9.out.trans' o4 (fun q hq e => by exact e)); clear hr10 hy10; have HC10_10 := hid (Only.refl (fun k => k ≤ Y) w10); clear o4; clear HR9 HO9 HD9 HY9; obtain ⟨y0, y1, y2, y3, yz⟩ := boxN4 HY10.out
 go_upto_region 43 with (fail)
 clear y0 y1 y2 y3 yz; have hy11 := heap_set (o := 3) HY10.out (.slice ar10 lr10 cr10); have hy11 : (w10.setCell ⟨Y, 3, none⟩ (.slice ar10 lr10 cr10)).heap[Y]? = some (.cells #[.int .u8 3, .string ⟨s7.toArray⟩, .slice none 0 0, .slice ar10 lr10 cr10] 99 (0, 0)) := by simpa using hy11
 have os11 : Only (fun k => k = Y) w10 (w10.setCell ⟨Y, 3, none⟩ (.slice ar10 lr10 cr10)) := (Only.refl (fun k => k = Y) _).setCell (p := ⟨Y, 3, none⟩) (.inl rfl) _; obtain ⟨w11, hw11⟩ := eX (w10.setCell ⟨Y, 3, none⟩ (.slice ar10 lr10 cr10)); rw [hw11] at hy11 os11; rw [hw11]; clear hw11; have HY11 := hid hy11; have HD11 := hid (HD10.out.only os11 (fun k hk e => by omega)); have HJ11 := HJ10; have hr11 := kB os11 HR10.out (by omega); have HR11 := hid hr11; have HC10_11 := hid (HC10_10.out.trans' os11 (fun q hq e => by have e : q = Y := e; show q ≤ Y; omega)); have HO11 := hid (HO10.out.trans' os11 (fun q hq e => by have e : q = Y := e; have := HWB.out; omega)); clear hr11; clear hy11 os11 HJ10; clear HR10 HO10 HD10 HY10 HC10_10; obtain ⟨y0, y1, y2, y3, yz⟩ := boxN4 HY11.out
 go_wp2_with ((refine wpList_store_box (o := ⟨none, _, _, _, _, _⟩) rfl 99 (.tmp 2) (.tmp 136) (by rfl) B [.int .u8 0, .string ⟨#[]⟩, .slice none 0 0, .slice none 0 0] [.int .u8 3, .string ⟨s7.toArray⟩, .slice none 0 0, .slice ar10 lr10 cr10] (by rfl) (by rfl) HR11.out (by rfl) (by kernel_rfl) (by intro u hu; simp at hu; rcases hu with rfl | rfl | rfl | rfl <;> rfl) ?_; intro w9 k1 k2))
 clear y0 y1 y2 y3 yz; obtain ⟨y0, y1, y2, y3, -⟩ := boxN4 k1; obtain ⟨hdn, hxs⟩ := HJ11.out.done; have hd9 : Rf w9 b all total.unit := by rw [← hdn]; exact HD11.out.only k2 (fun k hk e => by omega)
 have o10 := HC10_11.out.trans' k2 (fun q hq e => by have e : q = B := e; show q ≤ Y; omega); have hag : ∀ x q, total = .ok x q → aggP B tdC w9 x (.agg #[.int .u8 3, .string ⟨s7.toArray⟩, .slice none 0 0, .slice ar10 lr10 cr10]) := fun x q e => by
  obtain ⟨⟨⟨⟨u, n1⟩, u2⟩, l1⟩, rfl, ⟨⟨⟨-, k1⟩, -⟩, k3⟩⟩ := hxs x q e; subst k1; exact ⟨_, rfl, CellsAt.lit rfl (CellsAt.lit rfl (CellsAt.cons (CellAt.nilRow _ _ _) (CellsAt.cons (CellAt.weaken (G' := fun q => B ≤ q) (fun q _ h => by have h : Y < q := h; show B ≤ q; omega) _ _ (CellAt.only o10 (fun k hk e => by have hk : Y < k := hk; have e : k ≤ Y := e; omega) _ _ k3)) (CellsAt.nil _ _))))⟩
 exact bodyPost_ret (v := .agg #[.int .u8 3, .string ⟨s7.toArray⟩, .slice none 0 0, .slice ar10 lr10 cr10]) (by simp [results, Tryz.results62, go_sem, y0, y1, y2, y3]) rfl (HPP.out w9 _ ⟨3, s7, none, 0, 0, ar10, lr10, cr10, rfl⟩ hd9 hag (HO11.out.trans' k2 (fun q hq e => by have := HWB.out; omega)))
set_option maxRecDepth 100000 in
set_option maxHeartbeats 8000000 in
theorem fone_no (b : Nat) (all : RL) (σi : PR Unit) (hf : ∀ i, i < 5 → tst σi (isT (wordK i)) = false) (w : World) (h : Rf w b all σi) :
  Calls Tryz.prog 62 #[.pointer (some ⟨b, 0, none⟩)] w (FAns w b all σi (fun w' x v => aggP w.heap.size tdC w' x v) tdF tdP) := by
 have hbl := h.lt; obtain ⟨B, hB⟩ := eX (w.heap.size); have hbB : b < B := by omega
 have hno : flt σi 4 = (σi.bind fun _ => tdP).unit ∧ ∀ x q, (σi.bind fun _ => tdP) ≠ .ok x q := by
  cases σi with
  | ok u r =>
   show PR.bad (atT r) 4 = (tdP r).unit ∧ ∀ x q, tdP r ≠ .ok x q
   rw [td_no hf]; exact ⟨rfl, fun x q e => by cases e⟩
  | bad a c => exact ⟨rfl, fun x q e => by cases e⟩
 have HP : ∀ w', Rf w' b all (flt σi 4) → Only (fun k => k = b) w w' → FAns w b all σi (fun w' x v => aggP w.heap.size tdC w' x v) tdF tdP (.returned (.agg #[.int .u8 0, .string ⟨#[]⟩, .slice none 0 0, .slice none 0 0])) w' := fun w' q2 q4 => ⟨_, rfl, ⟨0, [], none, 0, 0, none, 0, 0, rfl⟩, by rw [← hno.1]; exact q2, fun x q e => absurd e (hno.2 x q), q4⟩
 obtain ⟨w0, hw0⟩ := eX (w.alloc (.cells #[.int .u8 0, .string ⟨#[]⟩, .slice none 0 0, .slice none 0 0] 99)); have hr0 : w0.heap[B]? = some (.cells #[.int .u8 0, .string ⟨#[]⟩, .slice none 0 0, .slice none 0 0] 99 (0, 0)) := by rw [← hw0, ← hB]; exact heap_new _ _
 have ho0 : Only (fun k => k = b) w w0 := by rw [← hw0]; exact (Only.refl _ w).alloc _
 have h0 : Rf w0 b all σi := by rw [← hw0]; exact h.still ((Only.refl (fun _ => False) w).alloc _)
 have HPP := hid HP; have HJ0 := hid trivial; have HR0 := hid hr0; have HD0 := hid h0; have HO0 := hid ho0; have HW0 := hid hw0; have HBB := hid hB; have HWB := hid (show w.heap.size ≤ B by omega); have HF := hid hf; clear HP hr0 h0 ho0 hw0 h hf hno
 generalize (FAns w b all σi (fun w' x v => aggP w.heap.size tdC w' x v) tdF tdP) = Q at *
 clear hB hbl
 go_enter Tryz.func62, Tryz.ntmps62
 go_upto_region 1 with (fail)
 rw [HBB.out, HW0.out]; clear HW0 HBB; have hsz1 : B < w0.heap.size := (gE HR0.out).1; obtain ⟨Y, hY⟩ := eX (w0.heap.size); obtain ⟨w1, hw1⟩ := eX (w0.alloc (.cells #[.int .u8 0, .string ⟨#[]⟩, .slice none 0 0, .slice none 0 0] 99)); have hy1 : w1.heap[Y]? = some (.cells #[.int .u8 0, .string ⟨#[]⟩, .slice none 0 0, .slice none 0 0] 99 (0, 0)) := by rw [← hw1, ← hY]; exact heap_new _ _
 have hr1 : w1.heap[B]? = some (.cells #[.int .u8 0, .string ⟨#[]⟩, .slice none 0 0, .slice none 0 0] 99 (0, 0)) := by rw [← hw1]; exact heap_old HR0.out _
 have oa1 : Only (fun _ => False) w0 w1 := by rw [← hw1]; exact (Only.refl _ _).alloc _
 rw [hY] at hsz1; have HY1 := hid hy1; have HR1 := hid hr1; have HD1 := hid (HD0.out.still oa1); have HO1 := hid (HO0.out.trans' oa1 (fun q _ e => e.elim)); have HW1 := hid hw1; have HYY := hid hY; have HJ1 := HJ0; clear hy1 hr1 hw1 hY oa1 HR0 HD0 HO0 HJ0
 go_upto_region 4 with (fail)
 rw [HYY.out, HW1.out]; clear HYY HW1; have J := hid (fWord_any b all σi [116, 121, 112, 101] w1 HD1.out); rw [← HD1.out.word 116 [121, 112, 101] (by decide), show tst σi (isT [116, 121, 112, 101]) = false from HF.out 0 (by omega)] at J
 go_wp2_with fail
 refine J.out.mono ?_
 rintro e w2 ⟨rfl, o4⟩; have HD2 := hid (HD1.out.still o4); have HJ2 := HJ1; clear J HJ1; have hr2 := kB o4 HR1.out (fun h => h); have HR2 := hid hr2; have hy2 := kB o4 HY1.out (fun h => h); have HY2 := hid hy2; have HO2 := hid (HO1.out.trans' o4 (fun q hq e => by exact e.elim)); clear hr2 hy2; clear o4; clear HR1 HO1 HD1 HY1; have J := hid (fWord_any b all σi [105, 110, 116, 101, 114, 102, 97, 99, 101] w2 HD2.out); rw [← HD2.out.word 105 [110, 116, 101, 114, 102, 97, 99, 101] (by decide), show tst σi (isT [105, 110, 116, 101, 114, 102, 97, 99, 101]) = false from HF.out 1 (by omega)] at J
 go_wp2_with fail
 refine J.out.mono ?_
 rintro e w3 ⟨rfl, o4⟩; have HD3 := hid (HD2.out.still o4); have HJ3 := HJ2; clear J HJ2; have hr3 := kB o4 HR2.out (fun h => h); have HR3 := hid hr3; have hy3 := kB o4 HY2.out (fun h => h); have HY3 := hid hy3; have HO3 := hid (HO2.out.trans' o4 (fun q hq e => by exact e.elim)); clear hr3 hy3; clear o4; clear HR2 HO2 HD2 HY2; have J := hid (fWord_any b all σi [117, 110, 105, 111, 110] w3 HD3.out); rw [← HD3.out.word 117 [110, 105, 111, 110] (by decide), show tst σi (isT [117, 110, 105, 111, 110]) = false from HF.out 2 (by omega)] at J
 go_wp2_with fail
 refine J.out.mono ?_
 rintro e w4 ⟨rfl, o4⟩; have HD4 := hid (HD3.out.still o4); have HJ4 := HJ3; clear J HJ3; have hr4 := kB o4 HR3.out (fun h => h); have HR4 := hid hr4; have hy4 := kB o4 HY3.out (fun h => h); have HY4 := hid hy4; have HO4 := hid (HO3.out.trans' o4 (fun q hq e => by exact e.elim)); clear hr4 hy4; clear o4; clear HR3 HO3 HD3 HY3; have J := hid (fWord_any b all σi [101, 110, 117, 109] w4 HD4.out); rw [← HD4.out.word 101 [110, 117, 109] (by decide), show tst σi (isT [101, 110, 117, 109]) = false from HF.out 3 (by omega)] at J
 go_wp2_with fail
 refine J.out.mono ?_
 rintro e w5 ⟨rfl, o4⟩; have HD5 := hid (HD4.out.still o4); have HJ5 := HJ4; clear J HJ4; have hr5 := kB o4 HR4.out (fun h => h); have HR5 := hid hr5; have hy5 := kB o4 HY4.out (fun h => h); have HY5 := hid hy5; have HO5 := hid (HO4.out.trans' o4 (fun q hq e => by exact e.elim)); clear hr5 hy5; clear o4; clear HR4 HO4 HD4 HY4; have J := hid (fWord_any b all σi [105, 110, 112, 117, 116] w5 HD5.out); rw [← HD5.out.word 105 [110, 112, 117, 116] (by decide), show tst σi (isT [105, 110, 112, 117, 116]) = false from HF.out 4 (by omega)] at J
 go_wp2_with fail
 refine J.out.mono ?_
 rintro e w6 ⟨rfl, o4⟩; have HD6 := hid (HD5.out.still o4); have HJ6 := HJ5; clear J HJ5; have hr6 := kB o4 HR5.out (fun h => h); have HR6 := hid hr6; have hy6 := kB o4 HY5.out (fun h => h); have HY6 := hid hy6; have HO6 := hid (HO5.out.trans' o4 (fun q hq e => by exact e.elim)); clear hr6 hy6; clear o4; clear HR5 HO5 HD5 HY5; have J := hid (fFault_any b all σi 4 (by decide) w6 HD6.out)
 go_wp2_with fail
 refine J.out.mono ?_
 rintro e w7 ⟨rfl, hd, o4⟩; have HD7 := hid hd; have HJ7 := HJ6; clear J HJ6 hd; have hr7 := kB o4 HR6.out (by omega); have HR7 := hid hr7; have hy7 := kB o4 HY6.out (by omega); have HY7 := hid hy7; have HO7 := hid (HO6.out.trans' o4 (fun q hq e => by exact e)); clear hr7 hy7; clear o4; clear HR6 HO6 HD6 HY6; obtain ⟨y0, y1, y2, y3, yz⟩ := boxN4 HY7.out
 go_wp2_with ((refine wpList_store_box (o := ⟨none, _, _, _, _, _⟩) rfl 99 (.tmp 2) (.tmp 9) (by rfl) B [.int .u8 0, .string ⟨#[]⟩, .slice none 0 0, .slice none 0 0] [.int .u8 0, .string ⟨#[]⟩, .slice none 0 0, .slice none 0 0] (by rfl) (by rfl) HR7.out (by rfl) (by kernel_rfl) (by intro u hu; simp at hu; rcases hu with rfl | rfl | rfl | rfl <;> rfl) ?_; intro w9 k1 k2))
 clear y0 y1 y2 y3 yz; obtain ⟨y0, y1, y2, y3, -⟩ := boxN4 k1; exact bodyPost_ret (v := .agg #[.int .u8 0, .string ⟨#[]⟩, .slice none 0 0, .slice none 0 0]) (by simp [results, Tryz.results62, go_sem, y0, y1, y2, y3]) rfl (HPP.out w9 (HD7.out.only k2 (fun k hk e => by have e : k = B := e; omega)) (HO7.out.trans' k2 (fun q hq e => by have e : q = B := e; have := HWB.out; omega)))
end Go.Proofs.YtnkpoddbbdmipaaGreatDoor
