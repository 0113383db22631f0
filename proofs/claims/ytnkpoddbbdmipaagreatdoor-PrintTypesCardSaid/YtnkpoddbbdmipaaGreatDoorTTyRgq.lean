/- . -/
import Derived.Test.YtnkpoddbbdmipaaGreatDoorTTyRgp
namespace Go.Proofs.YtnkpoddbbdmipaaGreatDoor
open Go Go.RowKit
open Go.Lib (hid)
set_option linter.unusedVariables false
set_option linter.unusedSimpArgs false
def LY {α : Type} (p : List Tok → PR α) (c : List UInt8) (enc : α → List Cell) (N : Nat) (T : TypeId) (tl : PR (List α)) (w wl : World) (b B Y : Nat) (all : RL) (mk : Value → List Value) (first : Bool) (wr : World) : Prop :=
 ∃ (σ : PR Unit) (rs : List (List Cell)) (vL : Value), Rf wr b all σ ∧ wr.heap[Y]? = some (.cells (mk vL).toArray 99 (0, 0)) ∧ wr.heap[B]? = some (.cells #[.int .u8 0, .string ⟨#[]⟩, .slice none 0 0, .slice none 0 0] 99 (0, 0)) ∧ OwnRow wr wl.heap.size T N vL rs ∧ Only (fun k => k = b) w wr ∧ Only (fun k => k = b ∨ k = Y) wl wr ∧ LS p c tl first rs.length (fun acc => rs = acc.map enc) σ
theorem plain_joint {rr : List Tok} {b1 b2 b3 : Bool} (h1 : isT wTrue rr = b1) (h2 : isT wFalse rr = b2) (h3 : isT wNull rr = b3) : ((if (b1 || b2 || b3) = true then flt (.ok () rr) 4 else (.ok () rr : PR Unit)).bind fun _ => nameP) = plainP rr := by
 unfold plainP; rw [h1, h2, h3]
 split <;> rfl
set_option maxRecDepth 100000 in
set_option maxHeartbeats 40000000 in
theorem fone_3 (b : Nat) (all : RL) (hdp : all.dp = 0) (r : List Tok) (hf : ∀ i, i < 3 → isT (wordK i) r = false) (hy : isT (wordK 3) r = true) (w : World) (h : Rf w b all (.ok () r)) :
  Calls Tryz.prog 62 #[.pointer (some ⟨b, 0, none⟩)] w (FAns w b all (.ok () r) (fun w' x v => aggP w.heap.size tdC w' x v) tdF tdP) := by
 have hbl := h.lt; obtain ⟨B, hB⟩ := eX (w.heap.size); have hbB : b < B := by omega
 obtain ⟨σ0, hs0⟩ : ∃ σ : PR Unit, PR.ok () r.tail = σ := ⟨_, rfl⟩; obtain ⟨total, htot⟩ := eX (tdP r); have hj := Jn.start σ0 td4; rw [← hs0, show ((PR.ok () r.tail : PR Unit).bind fun _ => td4) = total from by rw [← htot, td_yes (j := 3) (by omega) hf hy]; rfl, hs0] at hj; have HP : ∀ w' v, tdF v → Rf w' b all total.unit → (∀ x q, total = .ok x q → aggP B tdC w' x v) → Only (fun k => k = b) w w' → FAns w b all (.ok () r) (fun w' x v => aggP w.heap.size tdC w' x v) tdF tdP (.returned v) w' := fun w' v q1 q2 q3 q4 => ⟨v, rfl, q1, by rw [show ((PR.ok () r : PR Unit).bind fun _ => tdP) = total from htot]; exact q2, fun x q e => by rw [hB]; exact q3 x q (by rw [← htot]; exact e), q4⟩
 obtain ⟨w0, hw0⟩ := eX (w.alloc (.cells #[.int .u8 0, .string ⟨#[]⟩, .slice none 0 0, .slice none 0 0] 99)); have hr0 : w0.heap[B]? = some (.cells #[.int .u8 0, .string ⟨#[]⟩, .slice none 0 0, .slice none 0 0] 99 (0, 0)) := by rw [← hw0, ← hB]; exact heap_new _ _
 have ho0 : Only (fun k => k = b) w w0 := by rw [← hw0]; exact (Only.refl _ w).alloc _
 have h0 : Rf w0 b all (.ok () r) := by rw [← hw0]; exact h.still ((Only.refl (fun _ => False) w).alloc _)
 have HPP := hid HP; have HJ0 := hid hj; have HR0 := hid hr0; have HD0 := hid h0; have HO0 := hid ho0; have HW0 := hid hw0; have HBB := hid hB; have HWB := hid (show w.heap.size ≤ B by omega); have hk0 : isK 0 r = false := isT_kind hy; have HDZ := hid hdp; have HF := hid hf; have HY_ := hid hy; have HK0 := hid hk0; have HS0 := hid hs0; clear HP hj hr0 h0 ho0 hw0 htot h hf hy hdp hs0 hk0
 generalize (FAns w b all (.ok () r) (fun w' x v => aggP w.heap.size tdC w' x v) tdF tdP) = Q at *
 clear hB hbl
 go_enter Tryz.func62, Tryz.ntmps62
 go_upto_region 1 with (fail)
 rw [HBB.out, HW0.out]; clear HW0 HBB; have hsz1 : B < w0.heap.size := (gE HR0.out).1; obtain ⟨Y, hY⟩ := eX (w0.heap.size); obtain ⟨w1, hw1⟩ := eX (w0.alloc (.cells #[.int .u8 0, .string ⟨#[]⟩, .slice none 0 0, .slice none 0 0] 99)); have hy1 : w1.heap[Y]? = some (.cells #[.int .u8 0, .string ⟨#[]⟩, .slice none 0 0, .slice none 0 0] 99 (0, 0)) := by rw [← hw1, ← hY]; exact heap_new _ _
 have hr1 : w1.heap[B]? = some (.cells #[.int .u8 0, .string ⟨#[]⟩, .slice none 0 0, .slice none 0 0] 99 (0, 0)) := by rw [← hw1]; exact heap_old HR0.out _
 have oa1 : Only (fun _ => False) w0 w1 := by rw [← hw1]; exact (Only.refl _ _).alloc _
 rw [hY] at hsz1; have HY1 := hid hy1; have HR1 := hid hr1; have HD1 := hid (HD0.out.still oa1); have HO1 := hid (HO0.out.trans' oa1 (fun q _ e => e.elim)); have HW1 := hid hw1; have HYY := hid hY; have HJ1 := HJ0; clear hy1 hr1 hw1 hY oa1 HR0 HD0 HO0 HJ0
 go_upto_region 4 with (fail)
 rw [HYY.out, HW1.out]; clear HYY HW1; have J := hid (fWord_any b all (.ok () r) [116, 121, 112, 101] w1 HD1.out); rw [isT_word HD1.out 116 [121, 112, 101] (by decide) (x := false) (HF.out 0 (by omega))] at J
 go_wp2_with fail
 refine J.out.mono ?_
 rintro e w2 ⟨rfl, o4⟩; have HD2 := hid (HD1.out.still o4); have HJ2 := HJ1; clear J HJ1; have hr2 := kB o4 HR1.out (fun h => h); have HR2 := hid hr2; have hy2 := kB o4 HY1.out (fun h => h); have HY2 := hid hy2; have HO2 := hid (HO1.out.trans' o4 (fun q hq e => by exact e.elim)); clear hr2 hy2; clear o4; clear HR1 HO1 HD1 HY1; have J := hid (fWord_any b all (.ok () r) [105, 110, 116, 101, 114, 102, 97, 99, 101] w2 HD2.out); rw [isT_word HD2.out 105 [110, 116, 101, 114, 102, 97, 99, 101] (by decide) (x := false) (HF.out 1 (by omega))] at J
 go_wp2_with fail
 refine J.out.mono ?_
 rintro e w3 ⟨rfl, o4⟩; have HD3 := hid (HD2.out.still o4); have HJ3 := HJ2; clear J HJ2; have hr3 := kB o4 HR2.out (fun h => h); have HR3 := hid hr3; have hy3 := kB o4 HY2.out (fun h => h); have HY3 := hid hy3; have HO3 := hid (HO2.out.trans' o4 (fun q hq e => by exact e.elim)); clear hr3 hy3; clear o4; clear HR2 HO2 HD2 HY2; have J := hid (fWord_any b all (.ok () r) [117, 110, 105, 111, 110] w3 HD3.out); rw [isT_word HD3.out 117 [110, 105, 111, 110] (by decide) (x := false) (HF.out 2 (by omega))] at J
 go_wp2_with fail
 refine J.out.mono ?_
 rintro e w4 ⟨rfl, o4⟩; have HD4 := hid (HD3.out.still o4); have HJ4 := HJ3; clear J HJ3; have hr4 := kB o4 HR3.out (fun h => h); have HR4 := hid hr4; have hy4 := kB o4 HY3.out (fun h => h); have HY4 := hid hy4; have HO4 := hid (HO3.out.trans' o4 (fun q hq e => by exact e.elim)); clear hr4 hy4; clear o4; clear HR3 HO3 HD3 HY3; have J := hid (fWord_any b all (.ok () r) [101, 110, 117, 109] w4 HD4.out); rw [isT_word HD4.out 101 [110, 117, 109] (by decide) (x := true) (HY_.out)] at J
 go_wp2_with fail
 refine J.out.mono ?_
 rintro e w5 ⟨rfl, o4⟩; have HD5 := hid (HD4.out.still o4); have HJ5 := HJ4; clear J HJ4; have hr5 := kB o4 HR4.out (fun h => h); have HR5 := hid hr5; have hy5 := kB o4 HY4.out (fun h => h); have HY5 := hid hy5; have HO5 := hid (HO4.out.trans' o4 (fun q hq e => by exact e.elim)); clear hr5 hy5; clear o4; clear HR4 HO4 HD4 HY4; obtain ⟨y0, y1, y2, y3, yz⟩ := boxN4 HY5.out
 go_upto_region 14 with (fail)
 clear y0 y1 y2 y3 yz; have hy6 := heap_set (o := 0) HY5.out (.int .u8 4); have hy6 : (w5.setCell ⟨Y, 0, none⟩ (.int .u8 4)).heap[Y]? = some (.cells #[.int .u8 4, .string ⟨#[]⟩, .slice none 0 0, .slice none 0 0] 99 (0, 0)) := by simpa using hy6
 have os6 : Only (fun k => k = Y) w5 (w5.setCell ⟨Y, 0, none⟩ (.int .u8 4)) := (Only.refl (fun k => k = Y) _).setCell (p := ⟨Y, 0, none⟩) (.inl rfl) _; obtain ⟨w6, hw6⟩ := eX (w5.setCell ⟨Y, 0, none⟩ (.int .u8 4)); rw [hw6] at hy6 os6; rw [hw6]; clear hw6; have HY6 := hid hy6; have HD6 := hid (HD5.out.only os6 (fun k hk e => by omega)); have HJ6 := HJ5; have hr6 := kB os6 HR5.out (by omega); have HR6 := hid hr6; have HO6 := hid (HO5.out.trans' os6 (fun q hq e => by have e : q = Y := e; have := HWB.out; omega)); clear hr6; clear hy6 os6 HJ5; clear HR5 HO5 HD5 HY5; obtain ⟨_, _, _, _, _, _, _, j, bdj, e0, e1, e2, e3, e4, ez, jlt, jc, jN, -⟩ := HD6.out.next; have jlt2 : (j : Int) + 1 ≤ 1000000 := by omega
 have hdj := HD6.out.step HK0.out e1; have oj : Only (fun k => k = b) w6 (w6.setCell ⟨b, 1, none⟩ (.int .i64 ((j : Int) + 1))) := (Only.refl (fun k => k = b) w6).setCell (.inl rfl) _; obtain ⟨w7, hwj⟩ := eX (w6.setCell ⟨b, 1, none⟩ (.int .i64 ((j : Int) + 1))); rw [hwj] at hdj oj; rw [HS0.out] at hdj; have HDJ := hid hdj; have HWJ := hid hwj; have OJ := hid oj; clear hdj hwj oj
 go_upto_region 15 with (fail)
 rw [HWJ.out]; clear HWJ e0 e1 e2 e3 e4 ez jlt jc jN jlt2; have HD7 := HDJ; have HJ7 := HJ6; have hr7 := (OJ.out.block B (gE HR6.out).1 (by omega)).trans HR6.out; have HR7 := hid hr7; have hy7 := (OJ.out.block Y (gE HY6.out).1 (by omega)).trans HY6.out; have HY7 := hid hy7; have HO7 := hid (HO6.out.trans' OJ.out (fun q hq e => by exact e)); clear hr7 hy7; clear OJ HDJ HJ6; clear HR6 HO6 HD6 HY6; have J := hid (fName_any b all σ0 w7 HD7.out)
 go_wp2_with fail
 refine J.out.mono ?_
 rintro e w8 ⟨v, rfl, ⟨s8, rfl⟩, hd, hv, o4⟩; have hv : ∀ x q, (σ0.bind fun _ => nameP) = .ok x q → s8 = x := fun x q e => strF_inj (hv x q e)
 obtain ⟨σ8, hσ⟩ := eX ((σ0.bind fun _ => nameP).unit); rw [hσ] at hd; have hj := Jn.call (fun x => s8 = x) HJ7.out hσ.symm hv; have HJ8 := hid hj; have HD8 := hid hd; clear hj hd hv hσ HJ7 J; have hr8 := kB o4 HR7.out (by omega); have HR8 := hid hr8; have hy8 := kB o4 HY7.out (by omega); have HY8 := hid hy8; have HO8 := hid (HO7.out.trans' o4 (fun q hq e => by exact e)); clear hr8 hy8; clear o4; clear HR7 HO7 HD7 HY7; obtain ⟨y0, y1, y2, y3, yz⟩ := boxN4 HY8.out
 go_upto_region 16 with (fail)
 clear y0 y1 y2 y3 yz; have hy9 := heap_set (o := 1) HY8.out (.string ⟨s8.toArray⟩); have hy9 : (w8.setCell ⟨Y, 1, none⟩ (.string ⟨s8.toArray⟩)).heap[Y]? = some (.cells #[.int .u8 4, .string ⟨s8.toArray⟩, .slice none 0 0, .slice none 0 0] 99 (0, 0)) := by simpa using hy9
 have os9 : Only (fun k => k = Y) w8 (w8.setCell ⟨Y, 1, none⟩ (.string ⟨s8.toArray⟩)) := (Only.refl (fun k => k = Y) _).setCell (p := ⟨Y, 1, none⟩) (.inl rfl) _; obtain ⟨w9, hw9⟩ := eX (w8.setCell ⟨Y, 1, none⟩ (.string ⟨s8.toArray⟩)); rw [hw9] at hy9 os9; rw [hw9]; clear hw9; have HY9 := hid hy9; have HD9 := hid (HD8.out.only os9 (fun k hk e => by omega)); have HJ9 := HJ8; have hr9 := kB os9 HR8.out (by omega); have HR9 := hid hr9; have HO9 := hid (HO8.out.trans' os9 (fun q hq e => by have e : q = Y := e; have := HWB.out; omega)); clear hr9; clear hy9 os9 HJ8; clear HR8 HO8 HD8 HY8; obtain ⟨y0, y1, y2, y3, yz⟩ := boxN4 HY9.out
 go_upto_region 33 with (fail)
 clear y0 y1 y2 y3 yz; have J := hid (fMust_any b all σ8 [123] w9 HD9.out)
 go_wp2_with fail
 refine J.out.mono ?_
 rintro e w10 ⟨rfl, hd, o4⟩; have hv : ∀ x q, (σ8.bind fun _ => wantP [123]) = .ok x q → True := fun _ _ _ => trivial
 obtain ⟨σ10, hσ⟩ := eX ((σ8.bind fun _ => wantP [123]).unit); rw [hσ] at hd; have hj := Jn.call (fun _ => True) HJ9.out hσ.symm hv; have HJ10 := hid hj; have HD10 := hid hd; clear hj hd hv hσ HJ9 J; have hr10 := kB o4 HR9.out (by omega); have HR10 := hid hr10; have hy10 := kB o4 HY9.out (by omega); have HY10 := hid hy10; have HO10 := hid (HO9.out.trans' o4 (fun q hq e => by exact e)); clear hr10 hy10; clear o4; clear HR9 HO9 HD9 HY9; obtain ⟨tl, htl⟩ := eX ((σ10.bind fun _ r => loopP plainP [125] true [] r)); have htl2 : (σ10.bind fun _ => (fun r => manyP plainP [125] (r.length + 1) [] r)) = tl := by rw [← htl]; cases σ10 with
  | bad a c => rfl
  | ok u r => exact manyP_loop plainP_takes _ _ _ (by omega)
 have hls := LS.start (p := plainP) (c := [125]) true (K := fun acc => ([] : List (List Cell)) = acc.map (fun s => [strC s])) rfl (σ := σ10) (fun u r e => by have h := HD10.out; rw [e] at h; exact h.few.1); rw [htl] at hls; have HTL2 := hid htl2; have HI := hid (show LY plainP [125] (fun s => [strC s]) 1 9 tl w w10 b B Y all (fun v => [.int .u8 4, .string ⟨s8.toArray⟩, .slice none 0 0, v]) true w10 from ⟨σ10, [], .slice none 0 0, HD10.out, HY10.out, HR10.out, OwnRow.nil _ _ _ _, HO10.out, oR, hls⟩); have hYl : Y < w10.heap.size := (gE HY10.out).1; have hwl : w.heap.size ≤ w10.heap.size := HO10.out.size
 -- what is told behind the loop
 have HEX : ∀ (wz : World) (σz : PR Unit) (rs : List (List Cell)) (aL : Option Addr) (cL : Nat), Rf wz b all σz → σz = tl.unit → (∀ x q, tl = .ok x q → rs = x.map (fun s => [strC s])) → OwnRow wz w10.heap.size 9 1 (.slice aL rs.length cL) rs → Jn total σz (fun (p : ((Unit × List UInt8) × Unit) × List (List UInt8)) => (((True ∧ s8 = p.1.1.2) ∧ True) ∧ CellAt wz (fun q => Y < q) (.row 1 (p.2.map (fun s => [strC s]))) (.slice aL rs.length cL))) (fun (p : ((Unit × List UInt8) × Unit) × List (List UInt8)) r => .ok ⟨4, p.1.1.2, [], p.2⟩ r) := fun wz σz rs aL cL q1 q2 q3 q4 => by
  have hs : σz = (σ10.bind fun _ => (fun r => manyP plainP [125] (r.length + 1) [] r)).unit := by rw [htl2]; exact q2
  have hv : ∀ x q, (σ10.bind fun _ => (fun r => manyP plainP [125] (r.length + 1) [] r)) = .ok x q → CellAt wz (fun q => Y < q) (.row 1 (x.map (fun s => [strC s]))) (.slice aL rs.length cL) := fun x q e => by
   rw [htl2] at e; rw [← q3 x q e]; exact CellAt.weaken (fun q _ h => by have h : w10.heap.size ≤ q := h; show Y < q; omega) _ _ q4.cell
  have hj := Jn.call _ HJ10.out hs hv; exact hj.mono (fun p h => h)
 have HEXX := hid HEX; clear HEX htl htl2 hls; obtain ⟨wl, hwl0⟩ := eX (w10); rw [hwl0] at HI HEXX hYl hwl ⊢; clear hwl0 HY10 HR10 HD10 HO10 HJ10
 go_wp2_with fail
 go_loopw [4] (fun v4 wr => ∃ first : Bool, v4 = .bool first ∧ Hid (LY plainP [125] (fun s => [strC s]) 1 9 tl w wl b B Y all (fun v => [.int .u8 4, .string ⟨s8.toArray⟩, .slice none 0 0, v]) first wr)) (fun _ wr => muF wr b all)
 case atStart => exact ⟨true, rfl, HI⟩
 case round =>
  obtain ⟨first, rfl, hrel⟩ := hrel; obtain ⟨σ, rs, vL, hd, hy, hrb, hown, hon, hol, hls⟩ := hrel.out; obtain ⟨aL, cL, eL, fL1, fL2, fL3⟩ := hown.form; subst eL; have fL2n : cL ≤ 9223372036854775807 := by unfold maxLen at fL2; omega
  have HYr := hid (show wr.heap[Y]? = some (.cells #[.int .u8 4, .string ⟨s8.toArray⟩, .slice none 0 0, .slice aL rs.length cL] 99 (0, 0)) from hy); have HOWN := hid hown; have HDr := hid hd; have HRr := hid hrb; have HOr := hid hon; have HOL := hid hol; have HLS := hid hls; have HFL := hid fL3; have hYr : Y < wr.heap.size := (gE hy).1; obtain ⟨e0, ce, cz, hσ⟩ := hd.err; clear hy hown hd hrb hon hol hls fL2 fL3 hrel HI
  rcases hσ with ⟨rr, rfl, rfl⟩ | ⟨ab, rfl, he0⟩
  rotate_left
  ·-- a fault: the loop ends
   have t1 : ((e0 : Int) == 0) = false := by simp; omega
   have htl := HLS.out.bad _ _ rfl; have HJ90 := hid (HEXX.out wr (.bad ab e0) rs aL cL HDr.out (by rw [htl]; rfl) (fun x q e => (by rw [htl] at e; cases e)) HOWN.out); clear htl he0; have HR90 := HRr; have HY90 := HYr; have HD90 := HDr; have HO90 := HOr; obtain ⟨w90, hw90⟩ := eX (wr); rw [hw90] at HR90 HY90 HD90 HO90 HJ90 ce cz ⊢; have HC90_90 := hid (Only.refl (fun k => k ≤ Y) w90); clear hw90
   go_upto_region 43 with (fail)
   clear ce cz; obtain ⟨y0, y1, y2, y3, yz⟩ := boxN4 HY90.out
   go_wp2_with ((refine wpList_store_box (o := ⟨none, _, _, _, _, _⟩) rfl 99 (.tmp 2) (.tmp 136) (by rfl) B [.int .u8 0, .string ⟨#[]⟩, .slice none 0 0, .slice none 0 0] [.int .u8 4, .string ⟨s8.toArray⟩, .slice none 0 0, .slice aL rs.length cL] (by rfl) (by rfl) HR90.out (by rfl) (by kernel_rfl) (by intro u hu; simp at hu; rcases hu with rfl | rfl | rfl | rfl <;> rfl) ?_; intro w9 k1 k2))
   clear y0 y1 y2 y3 yz; obtain ⟨y0, y1, y2, y3, -⟩ := boxN4 k1; obtain ⟨hdn, hxs⟩ := HJ90.out.done; have hd9 : Rf w9 b all total.unit := by rw [← hdn]; exact HD90.out.only k2 (fun k hk e => by omega)
   have o90 := HC90_90.out.trans' k2 (fun q hq e => by have e : q = B := e; show q ≤ Y; omega); have hag : ∀ x q, total = .ok x q → aggP B tdC w9 x (.agg #[.int .u8 4, .string ⟨s8.toArray⟩, .slice none 0 0, .slice aL rs.length cL]) := fun x q e => by
    obtain ⟨⟨⟨⟨u, n1⟩, u2⟩, l1⟩, rfl, ⟨⟨⟨-, k1⟩, -⟩, k3⟩⟩ := hxs x q e; subst k1; exact ⟨_, rfl, CellsAt.lit rfl (CellsAt.lit rfl (CellsAt.cons (CellAt.nilRow _ _ _) (CellsAt.cons (CellAt.weaken (G' := fun q => B ≤ q) (fun q _ h => by have h : Y < q := h; show B ≤ q; omega) _ _ (CellAt.only o90 (fun k hk e => by have hk : Y < k := hk; have e : k ≤ Y := e; omega) _ _ k3)) (CellsAt.nil _ _))))⟩
   exact bodyPost_ret (v := .agg #[.int .u8 4, .string ⟨s8.toArray⟩, .slice none 0 0, .slice aL rs.length cL]) (by simp [results, Tryz.results62, go_sem, y0, y1, y2, y3]) rfl (HPP.out w9 _ ⟨4, s8, none, 0, 0, aL, rs.length, cL, rfl⟩ hd9 hag (HO90.out.trans' k2 (fun q hq e => by have := HWB.out; omega)))
  have T := hid (fEat_any b all (.ok () rr) [125] wr HDr.out); unfold tookF at T; obtain ⟨bb, hb⟩ := eX (tst (.ok () rr : PR Unit) (isT [125])); rw [hb] at T; have HBT := hid (show isT [125] rr = bb from hb); clear hb
  by_cases hstop : first = false ∧ bb = true
  ·obtain ⟨rfl, rfl⟩ := hstop; rw [if_pos rfl] at T; obtain ⟨acc, hK, htl⟩ := HLS.out.stop HBT.out; have HK := hid hK; have HTL := hid htl; clear hK htl
   go_wp2_with fail
   refine T.out.mono ?_
   rintro e w90 ⟨rfl, hd, o4⟩; clear ce cz; have HR90 := hid (kB o4 HRr.out (by omega)); have HY90 := hid (kB o4 HYr.out (by omega)); have HO90 := hid (HOr.out.trans o4); have HD90 := hid (show Rf w90 b all (.ok () rr.tail) from hd); have HJ90 := hid (HEXX.out w90 (.ok () rr.tail) rs aL cL hd (by rw [HTL.out]; rfl) (fun x q e => (by rw [HTL.out] at e; injection e with e _; subst e; exact HK.out)) (HOWN.out.only o4 (fun k h1 h2 e => by have e : k = b := e; omega))); have HC90_90 := hid (Only.refl (fun k => k ≤ Y) w90); clear hd o4 T
   go_upto_region 43 with (fail)
   obtain ⟨y0, y1, y2, y3, yz⟩ := boxN4 HY90.out
   go_wp2_with ((refine wpList_store_box (o := ⟨none, _, _, _, _, _⟩) rfl 99 (.tmp 2) (.tmp 136) (by rfl) B [.int .u8 0, .string ⟨#[]⟩, .slice none 0 0, .slice none 0 0] [.int .u8 4, .string ⟨s8.toArray⟩, .slice none 0 0, .slice aL rs.length cL] (by rfl) (by rfl) HR90.out (by rfl) (by kernel_rfl) (by intro u hu; simp at hu; rcases hu with rfl | rfl | rfl | rfl <;> rfl) ?_; intro w9 k1 k2))
   clear y0 y1 y2 y3 yz; obtain ⟨y0, y1, y2, y3, -⟩ := boxN4 k1; obtain ⟨hdn, hxs⟩ := HJ90.out.done; have hd9 : Rf w9 b all total.unit := by rw [← hdn]; exact HD90.out.only k2 (fun k hk e => by omega)
   have o90 := HC90_90.out.trans' k2 (fun q hq e => by have e : q = B := e; show q ≤ Y; omega); have hag : ∀ x q, total = .ok x q → aggP B tdC w9 x (.agg #[.int .u8 4, .string ⟨s8.toArray⟩, .slice none 0 0, .slice aL rs.length cL]) := fun x q e => by
    obtain ⟨⟨⟨⟨u, n1⟩, u2⟩, l1⟩, rfl, ⟨⟨⟨-, k1⟩, -⟩, k3⟩⟩ := hxs x q e; subst k1; exact ⟨_, rfl, CellsAt.lit rfl (CellsAt.lit rfl (CellsAt.cons (CellAt.nilRow _ _ _) (CellsAt.cons (CellAt.weaken (G' := fun q => B ≤ q) (fun q _ h => by have h : Y < q := h; show B ≤ q; omega) _ _ (CellAt.only o90 (fun k hk e => by have hk : Y < k := hk; have e : k ≤ Y := e; omega) _ _ k3)) (CellsAt.nil _ _))))⟩
   exact bodyPost_ret (v := .agg #[.int .u8 4, .string ⟨s8.toArray⟩, .slice none 0 0, .slice aL rs.length cL]) (by simp [results, Tryz.results62, go_sem, y0, y1, y2, y3]) rfl (HPP.out w9 _ ⟨4, s8, none, 0, 0, aL, rs.length, cL, rfl⟩ hd9 hag (HO90.out.trans' k2 (fun q hq e => by have := HWB.out; omega)))
  have hcl : first = true ∨ isT [125] rr = false := by
   have := HBT.out
   cases first with
   | true => exact .inl rfl
   | false => right; rw [this]; cases bb with | false => rfl | true => exact absurd ⟨rfl, rfl⟩ hstop
  have hfb : first = true ∨ (first = false ∧ bb = false) := by
   cases first with
   | true => exact .inl rfl
   | false => right; cases bb with | false => exact ⟨rfl, rfl⟩ | true => exact absurd ⟨rfl, rfl⟩ hstop
  have HCL := hid hcl; have HFEW := hid (show rs.length + 1 ≤ 1000000 by have h1 := (HLS.out.ok _ _ rfl).1; have h2 := HDr.out.few.2; omega); clear hcl hstop
  go_upto_region 35 with (fail)
  go_cut [109] from 97 to 109 (fun v w' => v = .bool true ∧ Rf w' b all (.ok () rr) ∧ Only (fun k => k = b) wr w')
  case first =>
   clear HCL HFEW
   rcases hfb with rfl | ⟨rfl, rfl⟩
   ·have HDD := HDr; clear T
    go_wp2_with fail
    clear ce cz
    go_meet
    case rel => exact ⟨rfl, HDD.out, oR⟩
   ·rw [if_neg (by decide)] at T
    go_wp2_with fail
    refine T.out.mono ?_
    rintro e w20 ⟨rfl, hd, o4⟩; have HD2 := hid hd; have HO2 := hid o4; clear ce cz hd o4
    go_wp2_with fail
    go_meet
    case rel => exact ⟨rfl, HD2.out, HO2.out⟩
  case rest =>
  obtain ⟨rfl, hd0, ho0⟩ := hcut; obtain ⟨v0, hv0⟩ := eX (wc); rw [hv0] at hd0 ho0 ⊢; obtain ⟨b1, hb1⟩ := eX (isT wTrue rr); obtain ⟨b2, hb2⟩ := eX (isT wFalse rr); obtain ⟨b3, hb3⟩ := eX (isT wNull rr); have hpj := plain_joint hb1 hb2 hb3; obtain ⟨σ5, hs5⟩ := eX ((if (b1 || b2 || b3) = true then flt (.ok () rr) 4 else (.ok () rr : PR Unit))); rw [hs5] at hpj; have HB1 := hid hb1; have HB2 := hid hb2; have HB3 := hid hb3; have HPJ := hid hpj; have HS5 := hid hs5; have HV0 := hid hd0; have HOV := hid ho0; clear hv0 hb1 hb2 hb3 hpj hs5 hd0 ho0 T HBT ce cz hfb
  go_upto_region 37 with (fail)
  go_cut [119] from 110 to 119 (fun v w' => v = .bool (b1 || b2 || b3) ∧ Only (fun _ => False) v0 w')
  case first =>
   have J1 : ∀ wx, Only (fun _ => False) v0 wx → Calls Tryz.prog 35 #[.pointer (some ⟨b, 0, none⟩), .string ⟨#[116, 114, 117, 101]⟩] wx fun e w' => e = .returned (.bool b1) ∧ Only (fun _ => False) wx w' := fun wx o => by
    have := fWord_any b all (.ok () rr) [116, 114, 117, 101] wx (HV0.out.still o); rw [isT_word (HV0.out.still o) 116 [114, 117, 101] (by decide) (x := b1) HB1.out] at this; exact this
   have J2 : ∀ wx, Only (fun _ => False) v0 wx → Calls Tryz.prog 35 #[.pointer (some ⟨b, 0, none⟩), .string ⟨#[102, 97, 108, 115, 101]⟩] wx fun e w' => e = .returned (.bool b2) ∧ Only (fun _ => False) wx w' := fun wx o => by
    have := fWord_any b all (.ok () rr) [102, 97, 108, 115, 101] wx (HV0.out.still o); rw [isT_word (HV0.out.still o) 102 [97, 108, 115, 101] (by decide) (x := b2) HB2.out] at this; exact this
   have J3 : ∀ wx, Only (fun _ => False) v0 wx → Calls Tryz.prog 35 #[.pointer (some ⟨b, 0, none⟩), .string ⟨#[110, 117, 108, 108]⟩] wx fun e w' => e = .returned (.bool b3) ∧ Only (fun _ => False) wx w' := fun wx o => by
    have := fWord_any b all (.ok () rr) [110, 117, 108, 108] wx (HV0.out.still o); rw [isT_word (HV0.out.still o) 110 [117, 108, 108] (by decide) (x := b3) HB3.out] at this; exact this
   have HJ1 := hid J1; have HJ2 := hid J2; have HJ3 := hid J3; clear J1 J2 J3
   cases b1 with
   | true =>
    go_wp2_with fail
    refine (HJ1.out v0 oR).mono ?_
    rintro e v1 ⟨rfl, o1⟩; have HOO := hid o1; clear o1
    go_wp2_with fail
    go_meet
    case rel => exact ⟨by first | rfl | trivial, HOO.out⟩
   | false =>
    go_wp2_with fail
    refine (HJ1.out v0 oR).mono ?_
    rintro e v1 ⟨rfl, o1⟩; have HO_1 := hid o1; clear o1
    cases b2 with
    | true =>
     go_wp2_with fail
     refine (HJ2.out v1 HO_1.out).mono ?_
     rintro e v2 ⟨rfl, o2⟩; have HOO := hid (HO_1.out.trans o2); clear o2
     go_wp2_with fail
     go_meet
     case rel => exact ⟨by first | rfl | trivial, HOO.out⟩
    | false =>
     go_wp2_with fail
     refine (HJ2.out v1 HO_1.out).mono ?_
     rintro e v2 ⟨rfl, o2⟩; have HO_2 := hid (HO_1.out.trans o2); clear o2
     go_wp2_with fail
     refine (HJ3.out v2 HO_2.out).mono ?_
     rintro e v3 ⟨rfl, o3⟩; have HOO := hid (HO_2.out.trans o3); clear o3
     go_wp2_with fail
     go_meet
     case rel => exact ⟨by first | rfl | trivial | simp, HOO.out⟩
  case rest =>
  obtain ⟨rfl, ho9⟩ := hcut; obtain ⟨v9, hv9⟩ := eX (wc); rw [hv9] at ho9 ⊢; obtain ⟨bz, hbz⟩ := eX ((b1 || b2 || b3)); rw [hbz] at HS5 ⊢; have HO9 := hid ho9; clear hv9 ho9 hbz
  go_upto_if 119 with (fail)
  go_cut [] from 120 to 121 (fun w' => Rf w' b all σ5 ∧ Only (fun k => k = b) v0 w')
  case first =>
   cases bz with
   | true =>
    have FF := hid (fFault_any b all (.ok () rr) 4 (by decide) v9 (HV0.out.still HO9.out))
    go_wp2_with fail
    refine FF.out.mono ?_
    rintro e v4 ⟨rfl, hd, o4⟩; have HDD := hid (show Rf v4 b all σ5 from by rw [← HS5.out]; first | (rw [if_pos rfl]; exact hd) | (rw [if_pos trivial]; exact hd) | simpa using hd); have HOO := hid ((HO9.out.mono (T := fun k => k = b) (fun _ _ h => h.elim)).trans o4); clear hd o4
    go_wp2_with fail
    go_meet
    case rel => exact ⟨HDD.out, HOO.out⟩
   | false =>
    have HDD := hid (show Rf v9 b all σ5 from by have hd := HV0.out.still HO9.out; rw [← HS5.out]; first | (rw [if_neg (by decide)]; exact hd) | simpa using hd); have HOO := hid (HO9.out.mono (T := fun k => k = b) (fun _ _ h => h.elim))
    go_wp2_with fail
    go_meet
    case rel => exact ⟨HDD.out, HOO.out⟩
  case rest =>
  obtain ⟨hd5, ho5⟩ := hcut; obtain ⟨w20, hw20⟩ := eX (wc); rw [hw20] at hd5 ho5 ⊢; have ho20 := HOV.out.trans ho5; have hY20 : Y < w20.heap.size := Nat.lt_of_lt_of_le hYr ho20.size; have HY20 := hid (kB ho20 HYr.out (by omega)); have HB20 := hid (kB ho20 HRr.out (by omega)); have HO20 := hid (HOr.out.trans ho20); have HOL20 := hid (HOL.out.trans' ho20 (fun q _ e => .inl e)); have HW20 := hid (HOWN.out.only ho20 (fun k h1 h2 e => by have e : k = b := e; omega)); have HFK2 := hid (show ∀ k, (Value.slice aL rs.length cL).ownBlock = some k → wl.heap.size ≤ k ∧ k < w20.heap.size from fun k hk => ⟨(HFL.out k hk).1, Nat.lt_of_lt_of_le (HFL.out k hk).2 ho20.size⟩); have H20 := hid hd5; clear hw20 hd5 ho5 ho20 HS5 HO9 HB1 HB2 HB3 HV0 HOV
  go_upto_region 39 with (fail)
  refine wp_region_stepsM 7 (by kernel_rfl) rfl (by kernel_rfl) [some 122, some 123, some 124, some 125, some 126, some 127, some 128] rfl rfl 3 5 (fun q => q = b) (fun q => (Value.slice aL rs.length cL).ownBlock = some q) [4, 5, 6, 7] (by kernel_rfl) [2] (by kernel_rfl) (by decide) (by decide) (.inr ⟨by decide, by decide⟩) [(fun v _ => v = (.pointer (some ⟨Y, 3, none⟩))), (fun v _ => v = (.slice aL rs.length cL)), (fun v _ => v = (.pointer (some ⟨b, 0, none⟩))), (fun v w1 => ∃ s : List UInt8, v = .string ⟨s.toArray⟩ ∧ Rf w1 b all (plainP rr).unit ∧ ∀ x q, plainP rr = .ok x q → s = x), (fun v w1 => ∃ (g : Nat) (s : List UInt8), v = .slice (some ⟨g, 0, none⟩) 1 1 ∧ w20.heap.size ≤ g ∧ g < w1.heap.size ∧ w1.rangeAt g 0 [.string ⟨s.toArray⟩] ∧ Rf w1 b all (plainP rr).unit ∧ ∀ x q, plainP rr = .ok x q → s = x), (fun v w1 => ∃ s : List UInt8, OwnRow w1 wl.heap.size 9 1 v (rs ++ [[strC s]]) ∧ (∀ q, v.ownBlock = some q → (Value.slice aL rs.length cL).ownBlock = some q ∨ w20.heap.size ≤ q) ∧ Rf w1 b all (plainP rr).unit ∧ ∀ x q, plainP rr = .ok x q → s = x), (fun v _ => v = (.pointer (some ⟨Y, 3, none⟩)))] rfl ⟨?_, ?_, ?_, ?_, ?_, ?_, ?_, trivial⟩ _ rfl ⟨?_, ?_, ?_, ?_, ?_, ?_, ?_, trivial⟩ ?_
  iterate 3 exact Stable.is _ _
  ·intro v w1 w2 h ho; have ho : Only (fun q => (Value.slice aL rs.length cL).ownBlock = some q) w1 w2 := ho; exact (by obtain ⟨s, e1, e3, e4⟩ := h; exact ⟨s, e1, e3.only ho (fun k hk h => by have := (HFK2.out k h).1; omega), e4⟩)
  ·intro v w1 w2 h ho; have ho : Only (fun q => (Value.slice aL rs.length cL).ownBlock = some q) w1 w2 := ho; exact (by obtain ⟨g, s, e1, e2, e3, e5, e7, e8⟩ := h; have hng : ¬ (Value.slice aL rs.length cL).ownBlock = some g := fun hk => (by have := (HFK2.out g hk).2; omega); exact ⟨g, s, e1, e2, Nat.lt_of_lt_of_le e3 ho.size, range_keep e5 e3 ho hng, e7.only ho (fun k hk h => by have := (HFK2.out k h).1; omega), e8⟩)
  ·intro v w1 w2 h ho; have ho : Only (fun _ => False) w1 w2 := ho; exact (by obtain ⟨s, e1, e2, e3, e4⟩ := h; exact ⟨s, e1.only ho (fun _ _ _ h => h), e2, e3.still ho, e4⟩)
  ·exact Stable.is _ _
  ·intro x wx ox hN TT HTT; have ox : Only (fun q => (fun q => q = b) q ∨ (fun q => (Value.slice aL rs.length cL).ownBlock = some q) q) _ wx := ox; unfold StepTo; simp only [putAll, Act.put, zA, zB, zC]; clear hN
   go_wp2_with fail
   exact ⟨rfl, _, rfl, HTT.out _ _ rfl oR⟩
  ·intro x wx ox hN TT HTT; have ox : Only (fun q => (fun q => q = b) q ∨ (fun q => (Value.slice aL rs.length cL).ownBlock = some q) q) _ wx := ox; unfold StepTo; simp only [putAll, Act.put, zA, zB, zC, eI (hN.1 rfl)]; clear hN; have hbx := (ox.block _ hY20 (fun h => by rcases h with h | h; omega; (have := (HFK2.out _ h).1; omega))).trans HY20.out; obtain ⟨c0, c1, c2, c3, -⟩ := boxN4 hbx; clear hbx
   go_wp2_with fail
   exact ⟨rfl, _, rfl, HTT.out _ _ rfl oR⟩
  ·intro x wx ox hN TT HTT; have ox : Only (fun _ => False) _ wx := ox; unfold StepTo; simp only [putAll, Act.put, zA, zB, zC]; clear hN
   go_wp2_with fail
   exact ⟨rfl, _, rfl, HTT.out _ _ rfl oR⟩
  ·intro x wx ox hN TT HTT; have ox : Only (fun _ => False) _ wx := ox; unfold StepTo; simp only [putAll, Act.put, zA, zB, zC, eI (hN.1 rfl)]; clear hN; have ht := fName_any b all σ5 wx (H20.out.still (((Only.refl _ w20).drew).trans ox)); have HT := hid ht; clear ht
   go_wp2_with fail
   refine HT.out.mono ?_
   rintro e w6 ⟨v6, rfl, ⟨s, rfl⟩, h6, hv6, o6⟩; rw [HPJ.out] at h6; have H6 := hid h6; have O6 := hid o6; have HV6 := hid (show ∀ x q, plainP rr = .ok x q → s = x from fun x q e => strF_inj (hv6 x q (by rw [HPJ.out]; exact e))); clear h6 o6 hv6
   go_wp2_with fail
   exact ⟨rfl, _, rfl, HTT.out _ _ (⟨s, rfl, H6.out, HV6.out⟩) (O6.out)⟩
  ·intro x wx ox hN TT HTT; have ox : Only (fun q => (fun q => q = b) q ∨ (fun q => (Value.slice aL rs.length cL).ownBlock = some q) q) _ wx := ox; have r125 : (fun (v : Value) (w1 : World) => ∃ s : List UInt8, v = .string ⟨s.toArray⟩ ∧ Rf w1 b all (plainP rr).unit ∧ ∀ x q, plainP rr = .ok x q → s = x) (x 3) wx := hN.1 rfl; unfold StepTo; simp only [putAll, Act.put, zA, zB, zC]; clear hN; obtain ⟨s, e1, e3, e4⟩ := r125; simp only [e1]; have hn := heap_new wx (.cells #[.string ⟨s.toArray⟩] 9); have on := (Only.refl (fun _ => False) wx).alloc (.cells #[.string ⟨s.toArray⟩] 9); have hgl : w20.heap.size ≤ wx.heap.size := ox.size; have H3 := hid e3; have HNB := hid hn; have ON := hid on; have HGL2 := hid hgl; have H4 := hid e4; clear e1 e3 hn on hgl e4
   go_wp2_with fail
   exact ⟨rfl, _, rfl, HTT.out _ _ (⟨wx.heap.size, s, rfl, HGL2.out, by simp, range_of_block HNB.out, H3.out.still ON.out, H4.out⟩) (ON.out)⟩
  ·intro x wx ox hN TT HTT; have ox : Only (fun q => q = b) _ wx := ox; have r126 : (fun (v : Value) (w1 : World) => ∃ (g : Nat) (s : List UInt8), v = .slice (some ⟨g, 0, none⟩) 1 1 ∧ w20.heap.size ≤ g ∧ g < w1.heap.size ∧ w1.rangeAt g 0 [.string ⟨s.toArray⟩] ∧ Rf w1 b all (plainP rr).unit ∧ ∀ x q, plainP rr = .ok x q → s = x) (x 4) wx := hN.2.1 rfl; have r125 : (fun (v : Value) (w1 : World) => ∃ s : List UInt8, v = .string ⟨s.toArray⟩ ∧ Rf w1 b all (plainP rr).unit ∧ ∀ x q, plainP rr = .ok x q → s = x) (x 3) wx := hN.2.2.1 rfl; unfold StepTo; simp only [putAll, Act.put, zA, zB, zC, eI (hN.1 rfl)]; clear hN; obtain ⟨g, s, e1, e2, e3, e5, e7, e8⟩ := r126; simp only [e1]; obtain ⟨xs, p1, p2⟩ := HW20.out.only (((Only.refl _ w20).drew).trans ox) (fun k h1 h2 e => by omega); have hys : ∀ j u, [Value.string ⟨s.toArray⟩][j]? = some u → wx.cell? ((⟨g, 0, none⟩ : Addr).add j) = some u := fun j u hu => by rw [addr_add]; exact e5 j u hu
   have hsl : w20.heap.size ≤ wx.heap.size := ox.size; have hlw : wl.heap.size ≤ w20.heap.size := HOL20.out.size; have HP1 := hid p1; have HP2 := hid p2; have HYS := hid hys; have HSL := hid hsl; have H6 := hid e7; have H8 := hid e8; have HLW2 := hid hlw; clear p1 p2 hys hsl e7 e5 e1 e8 hlw
   go_wp2_with ((refine wpList_append_own2 (o := ⟨some 127, _, _, _, _, _⟩) rfl (.tmp 123) (.tmp 126) 32 9 (by rfl) Tryz.underlying32 infoStrF rfl (by decide) wl.heap.size (.slice aL rs.length cL) rs.length 1 1 xs [.string ⟨s.toArray⟩] ⟨g, 0, none⟩ (by rfl) (by rfl) HP1.out (by rfl) HYS.out (by intro u hu; simp at hu; subst hu; rfl) (by have := HFEW.out; unfold maxLen; omega) (by have := HFEW.out; omega) (by have := HSL.out; have := HLW2.out; omega) ?_; intro v' w9 q1 q2 q3))
   have hp1 := HP1.out; have hp2 := HP2.out; have hrow := OwnRow.append (r := [strC s]) hp1 hp2 rfl (CellsAt.lit rfl (CellsAt.nil _ _)) q1 q2 q3; exact ⟨rfl, _, rfl, HTT.out _ _ (⟨s, hrow, fun q hq => (q3 q hq).imp id (fun h => Nat.le_trans HSL.out h), H6.out.only q2 (fun k hk h => by have := (HFK2.out k h).1; omega), H8.out⟩) (q2)⟩
  ·intro x wx ox hN TT HTT; have ox : Only (fun q => (fun q => q = b) q ∨ (fun q => (Value.slice aL rs.length cL).ownBlock = some q) q) _ wx := ox; have r125 : (fun (v : Value) (w1 : World) => ∃ s : List UInt8, v = .string ⟨s.toArray⟩ ∧ Rf w1 b all (plainP rr).unit ∧ ∀ x q, plainP rr = .ok x q → s = x) (x 3) wx := hN.2.2.2.1 rfl; have r126 : (fun (v : Value) (w1 : World) => ∃ (g : Nat) (s : List UInt8), v = .slice (some ⟨g, 0, none⟩) 1 1 ∧ w20.heap.size ≤ g ∧ g < w1.heap.size ∧ w1.rangeAt g 0 [.string ⟨s.toArray⟩] ∧ Rf w1 b all (plainP rr).unit ∧ ∀ x q, plainP rr = .ok x q → s = x) (x 4) wx := hN.2.2.2.2.1 rfl; have r127 : (fun (v : Value) (w1 : World) => ∃ s : List UInt8, OwnRow w1 wl.heap.size 9 1 v (rs ++ [[strC s]]) ∧ (∀ q, v.ownBlock = some q → (Value.slice aL rs.length cL).ownBlock = some q ∨ w20.heap.size ≤ q) ∧ Rf w1 b all (plainP rr).unit ∧ ∀ x q, plainP rr = .ok x q → s = x) (x 5) wx := hN.2.2.2.2.2.1 rfl; unfold StepTo; simp only [putAll, Act.put, zA, zB, zC, eI (hN.1 rfl), eI (hN.2.1 rfl), eI (hN.2.2.1 rfl)]; clear hN
   go_wp2_with fail
   exact ⟨rfl, _, rfl, HTT.out _ _ rfl oR⟩
  intro xb wxb oxb hN; have oxb : Only (fun q => (fun q => q = b) q ∨ (fun q => (Value.slice aL rs.length cL).ownBlock = some q) q) _ wxb := oxb; have r125 : (fun (v : Value) (w1 : World) => ∃ s : List UInt8, v = .string ⟨s.toArray⟩ ∧ Rf w1 b all (plainP rr).unit ∧ ∀ x q, plainP rr = .ok x q → s = x) (xb 3) wxb := hN.2.2.2.1; have r126 : (fun (v : Value) (w1 : World) => ∃ (g : Nat) (s : List UInt8), v = .slice (some ⟨g, 0, none⟩) 1 1 ∧ w20.heap.size ≤ g ∧ g < w1.heap.size ∧ w1.rangeAt g 0 [.string ⟨s.toArray⟩] ∧ Rf w1 b all (plainP rr).unit ∧ ∀ x q, plainP rr = .ok x q → s = x) (xb 4) wxb := hN.2.2.2.2.1; have r127 : (fun (v : Value) (w1 : World) => ∃ s : List UInt8, OwnRow w1 wl.heap.size 9 1 v (rs ++ [[strC s]]) ∧ (∀ q, v.ownBlock = some q → (Value.slice aL rs.length cL).ownBlock = some q ∨ w20.heap.size ≤ q) ∧ Rf w1 b all (plainP rr).unit ∧ ∀ x q, plainP rr = .ok x q → s = x) (xb 5) wxb := hN.2.2.2.2.2.1; simp only [putAll, Act.put, zA, zB, zC, eI hN.1, eI hN.2.1, eI hN.2.2.1, eI hN.2.2.2.2.2.2.1]; clear hN; obtain ⟨s, q1, q2, q5, hs⟩ := r127; obtain ⟨aL', cL', eL', gL1, gL2, gL3⟩ := q1.form; rw [List.length_append, List.length_singleton] at eL' gL1; rw [eL'] at q1 q2 gL3 ⊢; have gL2n' : cL' ≤ 9223372036854775807 := by unfold maxLen at gL2; omega
  have hYb := (oxb.block _ hY20 (fun h => by rcases h with h | h; omega; (have := (HFK2.out _ h).1; omega))).trans HY20.out; have hBb := (oxb.block _ (by omega : B < w20.heap.size) (fun h => by rcases h with h | h; omega; (have := (HFK2.out _ h).1; omega))).trans HB20.out; obtain ⟨c0, c1, c2, c3, hfz⟩ := boxN4 hYb; have hY6 := heap_set (o := 3) hYb (.slice aL' (rs.length + 1) cL'); have hY6 : (wxb.setCell ⟨Y, 3, none⟩ (.slice aL' (rs.length + 1) cL')).heap[Y]? = some (.cells #[.int .u8 4, .string ⟨s8.toArray⟩, .slice none 0 0, .slice aL' (rs.length + 1) cL'] 99 (0, 0)) := by simpa using hY6
  have hB6 := heap_set_ne (a := ⟨Y, 3, none⟩) hBb (by show B ≠ Y; omega) (.slice aL' (rs.length + 1) cL'); have o6 := (Only.refl (fun k => k = Y) wxb).setCell (p := ⟨Y, 3, none⟩) (.inl rfl) (.slice aL' (rs.length + 1) cL'); have hrd6 := q5.only o6 (fun k hk e => by omega); have hob : Only (fun q => q = b ∨ q = Y ∨ (Value.slice aL rs.length cL).ownBlock = some q) w20 (wxb.setCell ⟨Y, 3, none⟩ (.slice aL' (rs.length + 1) cL')) := ((((Only.refl _ w20).drew).trans' oxb (fun q _ h => h.imp id .inr)).trans' o6 (fun q _ h => .inr (.inl h))); have hW6 := q1.only o6 (fun k h1 h2 e => by omega); have hO6 : Only (fun k => k = b) w (wxb.setCell ⟨Y, 3, none⟩ (.slice aL' (rs.length + 1) cL')) := HO20.out.trans' hob (fun q hq h => by rcases h with h | h | h; exact h; (have := HWB.out; omega); (have := (HFK2.out q h).1; omega)); have hOL6 : Only (fun k => k = b ∨ k = Y) wl (wxb.setCell ⟨Y, 3, none⟩ (.slice aL' (rs.length + 1) cL')) := HOL20.out.trans' hob (fun q hq h => by rcases h with h | h | h; exact .inl h; exact .inr h; (have := (HFK2.out q h).1; omega)); have hlss := HLS.out.next (K' := fun acc => rs ++ [[strC s]] = acc.map (fun s => [strC s])) plainP_takes HDr.out.few.2 HCL.out (fun acc x q h1 h2 => by rw [h1, hs x q h2, List.map_append]; rfl); have hmu : muF (wxb.setCell ⟨Y, 3, none⟩ (.slice aL' (rs.length + 1) cL')) b all < muF wr b all := by
   rw [muF_ok HDr.out]
   cases hq : plainP rr with
   | bad p q => rw [hq] at hrd6; rw [muF_bad hrd6]; omega
   | ok x r2 => rw [hq] at hrd6; rw [muF_ok (u := ()) hrd6]; have := plainP_takes _ _ _ hq; omega
  have HNEW := hid (show LY plainP [125] (fun s => [strC s]) 1 9 tl w wl b B Y all (fun v => [.int .u8 4, .string ⟨s8.toArray⟩, .slice none 0 0, v]) false (wxb.setCell ⟨Y, 3, none⟩ (.slice aL' (rs.length + 1) cL')) from ⟨(plainP rr).unit, rs ++ [[strC s]], .slice aL' (rs.length + 1) cL', hrd6, hY6, hB6, hW6, hO6, hOL6, by rw [List.length_append, List.length_singleton]; exact hlss⟩); have HMU := hid hmu; clear hmu hlss hO6 hOL6 hW6 hob hrd6 o6 hB6 hY6 q1 q2 q5 gL2 gL3 eL' hYb hBb oxb hs
  go_wp2_with fail
  go_roundw
  case rel => first | exact ⟨false, rfl, HNEW⟩ | ((repeat apply Exists.intro); refine ⟨?_, rfl⟩; exact ⟨false, rfl, HNEW⟩)
  case measure => exact HMU.out
end Go.Proofs.YtnkpoddbbdmipaaGreatDoor
