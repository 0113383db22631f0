/- . -/
import Derived.Test.YtnkpoddbbdmipaaGreatDoorTApRfr
import Derived.Test.YtnkpoddbbdmipaaGreatDoorTApRgJ
namespace Go.Proofs.YtnkpoddbbdmipaaGreatDoor
open Go Go.RowKit
open Go.Lib (hid)
set_option linter.unusedVariables false
set_option linter.unusedSimpArgs false
def trF (v : Value) : Prop := ∃ (s : List UInt8) (a : Option Addr) (l c : Nat) (bb : Bool), v = .agg #[.string ⟨s.toArray⟩, .slice a l c, .bool bb]
def valF (v : Value) : Prop := ∃ (k : Nat) (n : Int) (s : List UInt8) (a1 : Option Addr) (l1 e1 : Nat) (a2 : Option Addr) (l2 e2 : Nat), v = .agg #[.int .u8 (k : Int), .int .i64 n, .string ⟨s.toArray⟩, .slice a1 l1 e1, .slice a2 l2 e2]
theorem strF_inj {s x : List UInt8} (h : Value.string ⟨s.toArray⟩ = .string ⟨x.toArray⟩) : s = x := by
 injection h with h; injection h with h
 simpa using congrArg Array.toList h
theorem aggF_cells {α : Type} {B : Nat} {enc : α → List Cell} {w : World} {x : α} {cs : List Value} (h : aggP B enc w x (.agg cs.toArray)) : CellsAt w (fun q => B ≤ q) (enc x) cs := by
 obtain ⟨cs', e, h⟩ := h
 injection e with e
 have e2 : cs = cs' := by simpa using congrArg Array.toList e
 rw [e2]; exact h
theorem row_one {w : World} {Y g N : Nat} {T : TypeId} {c : List Cell} {vs : List Value} (h : w.heap[g]? = some (.cells vs.toArray T (0, 0))) (k : CellsAt w (fun q => Y < q) c vs) (hg : Y < g) (hl : vs.length = N) : CellAt w (fun q => Y < q) (.row N [c]) (.slice (some ⟨g, 0, none⟩) 1 1) := by
 simp only [CellAt]; refine ⟨_, 1, rfl, by simp, by decide, fun _ => ⟨g, 0, rfl, hg, (gE h).1, ?_⟩⟩
 simp only [RowsAt, and_true]; exact ⟨vs, hl, range_of_block h, k⟩
theorem Rf.dcell {w : World} {b : Nat} {all : RL} {σ : PR Unit} (h : Rf w b all σ) : ∃ dv, w.cell? ⟨b, 2, none⟩ = some (.int .i64 dv) ∧ (∀ o, w.frozen? ⟨b, o, none⟩ = false) ∧ (okB σ = true → dv = (all.dp : Int)) := by
 obtain ⟨i, dv, bd, e, h, hs⟩ := h; obtain ⟨g, off, c, h1, -⟩ := h.row; refine ⟨dv, by simp [World.cell?, h1], fun o => by simp [World.frozen?, h1], fun hk => ?_⟩
 cases σ with
 | ok u r => exact hs.2.1
 | bad a c => cases hk
theorem Rf.up {w : World} {b : Nat} {all : RL} {σ : PR Unit} (h : Rf w b all.in_ σ) (hd : all.dp ≤ 1000) {dv : Int} (hc : w.cell? ⟨b, 2, none⟩ = some (.int .i64 dv)) : Rf (w.setCell ⟨b, 2, none⟩ (.int .i64 (IntKind.i64.wrap (dv - 1)))) b all σ := by
 obtain ⟨dv', k1, -, k2⟩ := h.dcell; rw [k1] at hc; injection hc with hc; injection hc with _ hc; subst hc; refine h.deep all rfl _ (fun hk => ?_)
 have e : dv' = ((all.dp + 1 : Nat) : Int) := k2 hk; rw [e, show ((all.dp + 1 : Nat) : Int) - 1 = (all.dp : Int) from by omega]; exact IntWalk.i64_in _ (by omega)
set_option maxRecDepth 100000 in
set_option maxHeartbeats 8000000 in
theorem fType_stop (b : Nat) (all : RL) (hdp : all.dp ≤ 1000) (σ0 : PR Unit) (a c : Nat) (w : World) (hb : opn all.dp σ0 = .bad a c) (h : Rf w b all σ0) :
  Calls Tryz.prog 72 #[.pointer (some ⟨b, 0, none⟩)] w fun e w' => e = .returned (.agg #[.string ⟨#[]⟩, .slice none 0 0, .bool false]) ∧ Rf w' b all (.bad a c) ∧ Only (fun k => k = b) w w' := by
 have hbl := h.lt; obtain ⟨B, hB⟩ := eX (w.heap.size); obtain ⟨w0, hw0⟩ := eX (w.alloc (.cells #[.string ⟨#[]⟩, .slice none 0 0, .bool false] 41)); obtain ⟨w1, hw1⟩ := eX (w0.alloc (.cells #[.string ⟨#[]⟩, .slice none 0 0, .bool false] 41)); obtain ⟨Y, hY⟩ := eX (w0.heap.size); have hs0 : w0.heap.size = B + 1 := by rw [← hw0, World.size_alloc, hB]
 have hr0 : w0.heap[B]? = some (.cells #[.string ⟨#[]⟩, .slice none 0 0, .bool false] 41 (0, 0)) := by rw [← hw0, ← hB]; exact heap_new _ _
 have hr1 : w1.heap[B]? = some (.cells #[.string ⟨#[]⟩, .slice none 0 0, .bool false] 41 (0, 0)) := by rw [← hw1]; exact heap_old hr0 _
 have hy1 : w1.heap[Y]? = some (.cells #[.string ⟨#[]⟩, .slice none 0 0, .bool false] 41 (0, 0)) := by rw [← hw1, ← hY]; exact heap_new _ _
 have o1 : Only (fun _ => False) w w1 := by rw [← hw1, ← hw0]; exact ((Only.refl _ w).alloc _).alloc _
 have J := hid (fOpen_any b all hdp σ0 w1 (h.still o1)); rw [hb] at J; have hbB : b < B := by omega
 have hBY : B < Y := by omega
 have HB := hid hB; have HW0 := hid hw0; have HW1 := hid hw1; have HY := hid hY; have HR1 := hid hr1; have HY1 := hid hy1; have O1 := hid o1; clear hB hw0 hw1 hY hs0 hr0 hr1 hy1 o1 hb h hbl
 go_enter Tryz.func72, Tryz.ntmps72
 go_upto_region 1 with (fail)
 rw [HB.out, HW0.out]
 go_upto_region 2 with (fail)
 rw [HY.out, HW1.out]; clear HW0 HW1
 go_wp2_with fail
 refine J.out.mono ?_
 rintro e w2 ⟨rfl, hd2, o2⟩; have hr2 := kB o2 HR1.out (by omega); have hy2 := kB o2 HY1.out (by omega); obtain ⟨dv, kd2, kfz, -⟩ := Rf.dcell hd2; obtain ⟨xd, hxd⟩ := eX (IntKind.i64.wrap (dv - 1)); have hd3 := Rf.up hd2 hdp kd2; rw [hxd] at hd3; have o3 : Only (fun k => k = b) w2 (w2.setCell ⟨b, 2, none⟩ (.int .i64 xd)) := (Only.refl (fun k => k = b) w2).setCell (.inl rfl) _; have hO : Only (fun k => k = b) w (w2.setCell ⟨b, 2, none⟩ (.int .i64 xd)) := ((O1.out.mono (T := fun k => k = b) (fun _ _ h => h.elim)).trans o2).trans o3; obtain ⟨w3, hw3⟩ := eX (w2.setCell ⟨b, 2, none⟩ (.int .i64 xd)); rw [hw3] at hd3 o3 hO; have hr3 := kB o3 hr2 (by omega); have hy3 := kB o3 hy2 (by omega); have HD3 := hid hd3; have HO := hid hO; have HW3 := hid hw3; have HR3 := hid hr3; have HY3 := hid hy3; have HWB := hid (show w.heap.size ≤ B by have := HB.out; omega); clear hd3 hO hw3 hr3 hy3 o3 hr2 hy2 o2 hd2 HB HY HR1 HY1 O1 J
 go_upto_region 10 with (fail)
 rw [HW3.out]; clear hxd HW3 kd2 kfz; obtain ⟨y0, y1, y2, yz⟩ := boxN3 HY3.out
 go_wp2_with ((refine wpList_store_box (o := ⟨none, _, _, _, _, _⟩) rfl 41 (.tmp 2) (.tmp 29) (by rfl) B [.string ⟨#[]⟩, .slice none 0 0, .bool false] [.string ⟨#[]⟩, .slice none 0 0, .bool false] (by rfl) (by rfl) HR3.out (by rfl) (by kernel_rfl) (by intro u hu; simp at hu; rcases hu with rfl | rfl | rfl <;> rfl) ?_; intro w9 k1 k2))
 clear y0 y1 y2 yz; obtain ⟨y0, y1, y2, -⟩ := boxN3 k1; exact bodyPost_ret (v := .agg #[.string ⟨#[]⟩, .slice none 0 0, .bool false]) (by simp [results, Tryz.results72, go_sem, y0, y1, y2]) rfl ⟨rfl, HD3.out.only k2 (fun k hk e => by have e : k = B := e; omega), HO.out.trans' k2 (fun q hq e => by have e : q = B := e; have := HWB.out; omega)⟩
set_option maxRecDepth 100000 in
set_option maxHeartbeats 8000000 in
theorem fType_any : ∀ (n : Nat) (b : Nat) (all : RL) (σ0 : PR Unit) (w : World), all.dp + n = 24 → Rf w b all σ0 →
  Calls Tryz.prog 72 #[.pointer (some ⟨b, 0, none⟩)] w (FAns w b all σ0 (fun w' x v => aggP w.heap.size trC w' x v) trF (typP n))
 | n, b, all, .bad a c, w, hdp, h => (fType_stop b all (by omega) (.bad a c) a c w (by unfold opn; split <;> rfl) h).mono fun e w' ⟨h1, h2, h3⟩ => ⟨_, h1, ⟨[], none, 0, 0, false, rfl⟩, h2, fun x q e => (by cases e), h3⟩
 | 0, b, all, .ok u r, w, hdp, h => (fType_stop b all (by omega) (.ok u r) (atT r) 5 w (if_pos (by omega)) h).mono fun e w' ⟨h1, h2, h3⟩ => ⟨_, h1, ⟨[], none, 0, 0, false, rfl⟩, h2, fun x q e => (by cases e), h3⟩
 | n + 1, b, all, .ok u r, w, hdp, h => by
  have IH := hid (fun b all σ w h1 => fType_any n b all σ w h1); have hopn : opn all.dp (.ok u r) = .ok u r := if_neg (by omega); obtain ⟨σ0, hs0⟩ : ∃ σ : PR Unit, PR.ok u r = σ := ⟨_, rfl⟩; rw [hs0] at h hopn ⊢; have hok : okB (opn all.dp σ0) = true := by rw [hopn, ← hs0]; rfl
  have HDP := hid (show all.dp ≤ 1000 by omega); have HDN := hid (show all.in_.dp + n = 24 by show all.dp + 1 + n = 24; omega); have HOP := hid hopn; have HOK := hid hok; clear hs0 hopn hok hdp; have hbl := h.lt; obtain ⟨B, hB⟩ := eX (w.heap.size); have hbB : b < B := by omega
  obtain ⟨total, htot⟩ := eX ((σ0.bind fun _ => (typP (n + 1)))); have hj := Jn.start σ0 (typP (n + 1)); rw [htot] at hj; have HP : ∀ w' v, trF v → Rf w' b all total.unit → (∀ x q, total = .ok x q → aggP B trC w' x v) → Only (fun k => k = b) w w' → FAns w b all σ0 (fun w' x v => aggP w.heap.size trC w' x v) trF (typP (n + 1)) (.returned v) w' := fun w' v q1 q2 q3 q4 => ⟨v, rfl, q1, by rw [htot]; exact q2, fun x q e => by rw [hB]; exact q3 x q (by rw [← htot]; exact e), q4⟩
  rw [show typP (n + 1) = fun r => if isT [91] r then (typP n r.tail).bind fun t r1 => (wantP [93] r1).bind fun _ r2 => bangP (.ls t) r2 else (nameP r).bind fun s r1 => bangP (.nm s) r1 from by funext r; rw [typP]] at hj; obtain ⟨w0, hw0⟩ := eX (w.alloc (.cells #[.string ⟨#[]⟩, .slice none 0 0, .bool false] 41)); have hr0 : w0.heap[B]? = some (.cells #[.string ⟨#[]⟩, .slice none 0 0, .bool false] 41 (0, 0)) := by rw [← hw0, ← hB]; exact heap_new _ _
  have ho0 : Only (fun k => k = b) w w0 := by rw [← hw0]; exact (Only.refl _ w).alloc _
  have h0 : Rf w0 b all σ0 := by rw [← hw0]; exact h.still ((Only.refl (fun _ => False) w).alloc _)
  have HPP := hid HP; have HJ0 := hid hj; have HR0 := hid hr0; have HD0 := hid h0; have HO0 := hid ho0; have HW0 := hid hw0; have HBB := hid hB; have HWB := hid (show w.heap.size ≤ B by omega); clear HP hj hr0 h0 ho0 hw0 htot h
  generalize (FAns w b all σ0 (fun w' x v => aggP w.heap.size trC w' x v) trF (typP (n + 1))) = Q at *
  clear hB hbl
  go_enter Tryz.func72, Tryz.ntmps72
  go_upto_region 1 with (fail)
  rw [HBB.out, HW0.out]; clear HW0 HBB; have hsz1 : B < w0.heap.size := (gE HR0.out).1; obtain ⟨Y, hY⟩ := eX (w0.heap.size); obtain ⟨w1, hw1⟩ := eX (w0.alloc (.cells #[.string ⟨#[]⟩, .slice none 0 0, .bool false] 41)); have hy1 : w1.heap[Y]? = some (.cells #[.string ⟨#[]⟩, .slice none 0 0, .bool false] 41 (0, 0)) := by rw [← hw1, ← hY]; exact heap_new _ _
  have hr1 : w1.heap[B]? = some (.cells #[.string ⟨#[]⟩, .slice none 0 0, .bool false] 41 (0, 0)) := by rw [← hw1]; exact heap_old HR0.out _
  have oa1 : Only (fun _ => False) w0 w1 := by rw [← hw1]; exact (Only.refl _ _).alloc _
  rw [hY] at hsz1; have HY1 := hid hy1; have HR1 := hid hr1; have HD1 := hid (HD0.out.still oa1); have HO1 := hid (HO0.out.trans' oa1 (fun q _ e => e.elim)); have HW1 := hid hw1; have HYY := hid hY; have HJ1 := HJ0; clear hy1 hr1 hw1 hY oa1 HR0 HD0 HO0 HJ0
  go_upto_region 2 with (fail)
  rw [HYY.out, HW1.out]; clear HYY HW1; have J := hid (fOpen_any b all HDP.out σ0 w1 HD1.out); rw [HOK.out, HOP.out] at J
  go_wp2_with fail
  refine J.out.mono ?_
  rintro e w2 ⟨rfl, hd, o4⟩; have HD2 := hid hd; have HJ2 := HJ1; clear hd HJ1 J; have hr2 := kB o4 HR1.out (by omega); have HR2 := hid hr2; have hy2 := kB o4 HY1.out (by omega); have HY2 := hid hy2; have HO2 := hid (HO1.out.trans' o4 (fun q hq e => by exact e)); clear hr2 hy2; clear o4; clear HR1 HO1 HD1 HY1; have J := hid (fEat_any b all.in_ σ0 [91] w2 HD2.out); unfold tookF at J; obtain ⟨bb3, hb3⟩ := eX (tst σ0 (isT [91])); rw [hb3] at J; have HBT := hid hb3; clear hb3
  cases bb3
  ·
   rw [if_neg (by decide)] at J
   go_wp2_with fail
   refine J.out.mono ?_
   rintro e w3 ⟨rfl, hd, o4⟩; have HJ3 := hid (HJ2.out.no HBT.out); have HD3 := hid hd; clear HJ2 hd HBT J; have hr3 := kB o4 HR2.out (by omega); have HR3 := hid hr3; have hy3 := kB o4 HY2.out (by omega); have HY3 := hid hy3; have HO3 := hid (HO2.out.trans' o4 (fun q hq e => by exact e)); clear hr3 hy3; clear o4; clear HR2 HO2 HD2 HY2; have J := hid (fName_any b all.in_ σ0 w3 HD3.out)
   go_wp2_with fail
   refine J.out.mono ?_
   rintro e w4 ⟨v, rfl, ⟨s4, rfl⟩, hd, hv, o4⟩; have hv : ∀ x q, (σ0.bind fun _ => nameP) = .ok x q → s4 = x := fun x q e => strF_inj (hv x q e)
   obtain ⟨σ4, hσ⟩ := eX ((σ0.bind fun _ => nameP).unit); rw [hσ] at hd; have hj := Jn.call (fun x => s4 = x) HJ3.out hσ.symm hv; have HJ4 := hid hj; have HD4 := hid hd; clear hj hd hv hσ HJ3 J; have hr4 := kB o4 HR3.out (by omega); have HR4 := hid hr4; have hy4 := kB o4 HY3.out (by omega); have HY4 := hid hy4; have HO4 := hid (HO3.out.trans' o4 (fun q hq e => by exact e)); clear hr4 hy4; clear o4; clear HR3 HO3 HD3 HY3; obtain ⟨y0, y1, y2, yz⟩ := boxN3 HY4.out
   go_upto_region 8 with (fail)
   clear y0 y1 y2 yz; have hy5 := heap_set (o := 0) HY4.out (.string ⟨s4.toArray⟩); have hy5 : (w4.setCell ⟨Y, 0, none⟩ (.string ⟨s4.toArray⟩)).heap[Y]? = some (.cells #[.string ⟨s4.toArray⟩, .slice none 0 0, .bool false] 41 (0, 0)) := by simpa using hy5
   have os5 : Only (fun k => k = Y) w4 (w4.setCell ⟨Y, 0, none⟩ (.string ⟨s4.toArray⟩)) := (Only.refl (fun k => k = Y) _).setCell (p := ⟨Y, 0, none⟩) (.inl rfl) _; obtain ⟨w5, hw5⟩ := eX (w4.setCell ⟨Y, 0, none⟩ (.string ⟨s4.toArray⟩)); rw [hw5] at hy5 os5; rw [hw5]; clear hw5; have HY5 := hid hy5; have HD5 := hid (HD4.out.only os5 (fun k hk e => by omega)); have HJ5 := HJ4; have hr5 := kB os5 HR4.out (by omega); have HR5 := hid hr5; have HO5 := hid (HO4.out.trans' os5 (fun q hq e => by have e : q = Y := e; have := HWB.out; omega)); clear hr5; clear hy5 os5 HJ4; clear HR4 HO4 HD4 HY4; have HJu := HJ5.out; unfold bangP at HJu; clear HJ5; have HJ5 := hid HJu; clear HJu; have J := hid (fEat_any b all.in_ σ4 [33] w5 HD5.out); unfold tookF at J; obtain ⟨bb6, hb6⟩ := eX (tst σ4 (isT [33])); rw [hb6] at J; have HBT := hid hb6; clear hb6
   cases bb6
   ·
    rw [if_neg (by decide)] at J
    go_wp2_with fail
    refine J.out.mono ?_
    rintro e w6 ⟨rfl, hd, o4⟩; have HJ6 := hid (HJ5.out.no HBT.out); have HD6 := hid hd; clear HJ5 hd HBT J; have hr6 := kB o4 HR5.out (by omega); have HR6 := hid hr6; have hy6 := kB o4 HY5.out (by omega); have HY6 := hid hy6; have HO6 := hid (HO5.out.trans' o4 (fun q hq e => by exact e)); clear hr6 hy6; clear o4; clear HR5 HO5 HD5 HY5; obtain ⟨y0, y1, y2, yz⟩ := boxN3 HY6.out
    go_upto_region 9 with (fail)
    clear y0 y1 y2 yz; have hy7 := heap_set (o := 2) HY6.out (.bool false); have hy7 : (w6.setCell ⟨Y, 2, none⟩ (.bool false)).heap[Y]? = some (.cells #[.string ⟨s4.toArray⟩, .slice none 0 0, .bool false] 41 (0, 0)) := by simpa using hy7
    have os7 : Only (fun k => k = Y) w6 (w6.setCell ⟨Y, 2, none⟩ (.bool false)) := (Only.refl (fun k => k = Y) _).setCell (p := ⟨Y, 2, none⟩) (.inl rfl) _; obtain ⟨w7, hw7⟩ := eX (w6.setCell ⟨Y, 2, none⟩ (.bool false)); rw [hw7] at hy7 os7; rw [hw7]; clear hw7; have HY7 := hid hy7; have HD7 := hid (HD6.out.only os7 (fun k hk e => by omega)); have HJ7 := HJ6; have hr7 := kB os7 HR6.out (by omega); have HR7 := hid hr7; have HO7 := hid (HO6.out.trans' os7 (fun q hq e => by have e : q = Y := e; have := HWB.out; omega)); clear hr7; clear hy7 os7 HJ6; clear HR6 HO6 HD6 HY6; obtain ⟨dv, kd2, kfz, -⟩ := Rf.dcell HD7.out; obtain ⟨xd, hxd⟩ := eX (IntKind.i64.wrap (dv - 1)); have hd8 := Rf.up HD7.out HDP.out kd2; rw [hxd] at hd8; have od8 : Only (fun k => k = b) w7 (w7.setCell ⟨b, 2, none⟩ (.int .i64 xd)) := (Only.refl (fun k => k = b) w7).setCell (.inl rfl) _; obtain ⟨w8, hw8⟩ := eX (w7.setCell ⟨b, 2, none⟩ (.int .i64 xd)); rw [hw8] at hd8 od8; have HD8 := hid hd8; have HW8 := hid hw8; have HJ8 := HJ7; clear hd8 hw8; have hr8 := kB od8 HR7.out (by omega); have HR8 := hid hr8; have hy8 := kB od8 HY7.out (by omega); have HY8 := hid hy8; have HO8 := hid (HO7.out.trans' od8 (fun q hq e => by exact e)); clear hr8 hy8
    go_upto_region 10 with (fail)
    rw [HW8.out]; clear hxd HW8 kd2 kfz od8 HJ7; clear HR7 HO7 HD7 HY7; obtain ⟨y0, y1, y2, yz⟩ := boxN3 HY8.out
    go_wp2_with ((refine wpList_store_box (o := ⟨none, _, _, _, _, _⟩) rfl 41 (.tmp 2) (.tmp 29) (by rfl) B [.string ⟨#[]⟩, .slice none 0 0, .bool false] [.string ⟨s4.toArray⟩, .slice none 0 0, .bool false] (by rfl) (by rfl) HR8.out (by rfl) (by kernel_rfl) (by intro u hu; simp at hu; rcases hu with rfl | rfl | rfl <;> rfl) ?_; intro w9 k1 k2))
    clear y0 y1 y2 yz; obtain ⟨y0, y1, y2, -⟩ := boxN3 k1; obtain ⟨hdn, hxs⟩ := HJ8.out.done; have hd9 : Rf w9 b all total.unit := by rw [← hdn]; exact HD8.out.only k2 (fun k hk e => by omega)
    have hag : ∀ x q, total = .ok x q → aggP B trC w9 x (.agg #[.string ⟨s4.toArray⟩, .slice none 0 0, .bool false]) := fun x q e => by
     obtain ⟨⟨u, n1⟩, rfl, ⟨-, k1⟩⟩ := hxs x q e; subst k1; exact ⟨_, rfl, CellsAt.lit rfl (CellsAt.cons (CellAt.nilRow _ _ _) (CellsAt.lit rfl (CellsAt.nil _ _)))⟩
    exact bodyPost_ret (v := .agg #[.string ⟨s4.toArray⟩, .slice none 0 0, .bool false]) (by simp [results, Tryz.results72, go_sem, y0, y1, y2]) rfl (HPP.out w9 _ ⟨s4, none, 0, 0, false, rfl⟩ hd9 hag (HO8.out.trans' k2 (fun q hq e => by have := HWB.out; omega)))
   ·
    rw [if_pos rfl] at J
    go_wp2_with fail
    refine J.out.mono ?_
    rintro e w6 ⟨rfl, hd, o4⟩; have HJ6 := hid (Jn.adv (F := fun (p : Unit × List UInt8) r => .ok (TR.nm p.2 true) r) (HJ5.out.yes HBT.out)); obtain ⟨σ6, hσ⟩ := eX (adv σ4); rw [hσ] at hd HJ6; clear hσ; have HD6 := hid hd; clear HJ5 hd HBT J; have hr6 := kB o4 HR5.out (by omega); have HR6 := hid hr6; have hy6 := kB o4 HY5.out (by omega); have HY6 := hid hy6; have HO6 := hid (HO5.out.trans' o4 (fun q hq e => by exact e)); clear hr6 hy6; clear o4; clear HR5 HO5 HD5 HY5; obtain ⟨y0, y1, y2, yz⟩ := boxN3 HY6.out
    go_upto_region 9 with (fail)
    clear y0 y1 y2 yz; have hy7 := heap_set (o := 2) HY6.out (.bool true); have hy7 : (w6.setCell ⟨Y, 2, none⟩ (.bool true)).heap[Y]? = some (.cells #[.string ⟨s4.toArray⟩, .slice none 0 0, .bool true] 41 (0, 0)) := by simpa using hy7
    have os7 : Only (fun k => k = Y) w6 (w6.setCell ⟨Y, 2, none⟩ (.bool true)) := (Only.refl (fun k => k = Y) _).setCell (p := ⟨Y, 2, none⟩) (.inl rfl) _; obtain ⟨w7, hw7⟩ := eX (w6.setCell ⟨Y, 2, none⟩ (.bool true)); rw [hw7] at hy7 os7; rw [hw7]; clear hw7; have HY7 := hid hy7; have HD7 := hid (HD6.out.only os7 (fun k hk e => by omega)); have HJ7 := HJ6; have hr7 := kB os7 HR6.out (by omega); have HR7 := hid hr7; have HO7 := hid (HO6.out.trans' os7 (fun q hq e => by have e : q = Y := e; have := HWB.out; omega)); clear hr7; clear hy7 os7 HJ6; clear HR6 HO6 HD6 HY6; obtain ⟨dv, kd2, kfz, -⟩ := Rf.dcell HD7.out; obtain ⟨xd, hxd⟩ := eX (IntKind.i64.wrap (dv - 1)); have hd8 := Rf.up HD7.out HDP.out kd2; rw [hxd] at hd8; have od8 : Only (fun k => k = b) w7 (w7.setCell ⟨b, 2, none⟩ (.int .i64 xd)) := (Only.refl (fun k => k = b) w7).setCell (.inl rfl) _; obtain ⟨w8, hw8⟩ := eX (w7.setCell ⟨b, 2, none⟩ (.int .i64 xd)); rw [hw8] at hd8 od8; have HD8 := hid hd8; have HW8 := hid hw8; have HJ8 := HJ7; clear hd8 hw8; have hr8 := kB od8 HR7.out (by omega); have HR8 := hid hr8; have hy8 := kB od8 HY7.out (by omega); have HY8 := hid hy8; have HO8 := hid (HO7.out.trans' od8 (fun q hq e => by exact e)); clear hr8 hy8
    go_upto_region 10 with (fail)
    rw [HW8.out]; clear hxd HW8 kd2 kfz od8 HJ7; clear HR7 HO7 HD7 HY7; obtain ⟨y0, y1, y2, yz⟩ := boxN3 HY8.out
    go_wp2_with ((refine wpList_store_box (o := ⟨none, _, _, _, _, _⟩) rfl 41 (.tmp 2) (.tmp 29) (by rfl) B [.string ⟨#[]⟩, .slice none 0 0, .bool false] [.string ⟨s4.toArray⟩, .slice none 0 0, .bool true] (by rfl) (by rfl) HR8.out (by rfl) (by kernel_rfl) (by intro u hu; simp at hu; rcases hu with rfl | rfl | rfl <;> rfl) ?_; intro w9 k1 k2))
    clear y0 y1 y2 yz; obtain ⟨y0, y1, y2, -⟩ := boxN3 k1; obtain ⟨hdn, hxs⟩ := HJ8.out.done; have hd9 : Rf w9 b all total.unit := by rw [← hdn]; exact HD8.out.only k2 (fun k hk e => by omega)
    have hag : ∀ x q, total = .ok x q → aggP B trC w9 x (.agg #[.string ⟨s4.toArray⟩, .slice none 0 0, .bool true]) := fun x q e => by
     obtain ⟨⟨u, n1⟩, rfl, ⟨-, k1⟩⟩ := hxs x q e; subst k1; exact ⟨_, rfl, CellsAt.lit rfl (CellsAt.cons (CellAt.nilRow _ _ _) (CellsAt.lit rfl (CellsAt.nil _ _)))⟩
    exact bodyPost_ret (v := .agg #[.string ⟨s4.toArray⟩, .slice none 0 0, .bool true]) (by simp [results, Tryz.results72, go_sem, y0, y1, y2]) rfl (HPP.out w9 _ ⟨s4, none, 0, 0, true, rfl⟩ hd9 hag (HO8.out.trans' k2 (fun q hq e => by have := HWB.out; omega)))
  ·
   rw [if_pos rfl] at J
   go_wp2_with fail
   refine J.out.mono ?_
   rintro e w3 ⟨rfl, hd, o4⟩; have HJ3 := hid (Jn.adv (F := fun (_ : Unit) r => (typP n r).bind fun t r1 => (wantP [93] r1).bind fun _ r2 => bangP (.ls t) r2) (HJ2.out.yes HBT.out)); obtain ⟨σ3, hσ⟩ := eX (adv σ0); rw [hσ] at hd HJ3; clear hσ; have HD3 := hid hd; clear HJ2 hd HBT J; have hr3 := kB o4 HR2.out (by omega); have HR3 := hid hr3; have hy3 := kB o4 HY2.out (by omega); have HY3 := hid hy3; have HO3 := hid (HO2.out.trans' o4 (fun q hq e => by exact e)); clear hr3 hy3; clear o4; clear HR2 HO2 HD2 HY2; have J := hid (IH.out b all.in_ σ3 w3 HDN.out HD3.out)
   go_wp2_with fail
   refine J.out.mono ?_
   rintro e w4 ⟨v, rfl, ⟨st, at1, lt1, et1, bt1, rfl⟩, hd, hv, o4⟩; have hsy : Y < w3.heap.size := (gE HY3.out).1; have hv : ∀ x q, (σ3.bind fun _ => typP n) = .ok x q → CellsAt w4 (fun q => Y < q) (trC x) [.string ⟨st.toArray⟩, .slice at1 lt1 et1, .bool bt1] := fun x q e => CellsAt.weaken (fun q _ h => by have h : w3.heap.size ≤ q := h; show Y < q; omega) _ _ (aggF_cells (hv x q e))
   obtain ⟨σ4, hσ⟩ := eX ((σ3.bind fun _ => typP n).unit); rw [hσ] at hd; have hj := Jn.call (fun x => CellsAt w4 (fun q => Y < q) (trC x) [.string ⟨st.toArray⟩, .slice at1 lt1 et1, .bool bt1]) HJ3.out hσ.symm hv; have HJ4 := hid hj; have HD4 := hid hd; clear hj hd hv hσ HJ3 J hsy; have hr4 := kB o4 HR3.out (by omega); have HR4 := hid hr4; have hy4 := kB o4 HY3.out (by omega); have HY4 := hid hy4; have HO4 := hid (HO3.out.trans' o4 (fun q hq e => by exact e)); clear hr4 hy4; have HC4_4 := hid (Only.refl (fun k => k ≤ Y) w4); clear o4; clear HR3 HO3 HD3 HY3; obtain ⟨X, hX⟩ := eX (w4.heap.size); obtain ⟨w4a, hwa⟩ := eX (w4.alloc (.cells #[.string ⟨st.toArray⟩, .slice at1 lt1 et1, .bool bt1] 41)); have oa : Only (fun _ => False) w4 w4a := by rw [← hwa]; exact (Only.refl _ _).alloc _
   have hxa : w4a.heap[X]? = some (.cells #[.string ⟨st.toArray⟩, .slice at1 lt1 et1, .bool bt1] 41 (0, 0)) := by rw [← hwa, ← hX]; exact heap_new _ _
   obtain ⟨G, hG⟩ := eX (w4a.heap.size); obtain ⟨w5, hwb⟩ := eX (w4a.alloc (.cells #[.string ⟨st.toArray⟩, .slice at1 lt1 et1, .bool bt1] 41)); have ob : Only (fun _ => False) w4 w5 := by rw [← hwb]; exact oa.alloc _
   have hgb : w5.heap[G]? = some (.cells #[.string ⟨st.toArray⟩, .slice at1 lt1 et1, .bool bt1] 41 (0, 0)) := by rw [← hwb, ← hG]; exact heap_new _ _
   have hyl : Y < w4.heap.size := (gE HY4.out).1; have hYG : Y < G := by have := oa.size; omega
   have HX := hid hX; have HWA := hid hwa; have HG := hid hG; have HWB2 := hid hwb; have HGB := hid hgb; have HXA := hid hxa; have HD5 := hid (HD4.out.still ob); have HJ5 := HJ4; have hr5 := kB ob HR4.out (fun h => h); have HR5 := hid hr5; have hy5 := kB ob HY4.out (fun h => h); have HY5 := hid hy5; have HC4_5 := hid (HC4_4.out.trans' ob (fun q hq e => by exact e.elim)); have HO5 := hid (HO4.out.trans' ob (fun q hq e => by exact e.elim)); clear hr5 hy5; clear hX hwa hG hwb hgb hxa oa ob hyl HJ4; clear HR4 HO4 HD4 HY4 HC4_4
   go_upto_region 5 with (fail)
   rw [HX.out, HWA.out]; clear HX HWA; obtain ⟨x0, x1, x2, -⟩ := boxN3 HXA.out; clear HXA; obtain ⟨y0, y1, y2, yz⟩ := boxN3 HY5.out; have hy6 := heap_set (o := 1) HY5.out (.slice (some ⟨G, 0, none⟩) 1 1); have hy6 : (w5.setCell ⟨Y, 1, none⟩ (.slice (some ⟨G, 0, none⟩) 1 1)).heap[Y]? = some (.cells #[.string ⟨#[]⟩, .slice (some ⟨G, 0, none⟩) 1 1, .bool false] 41 (0, 0)) := by simpa using hy6
   have os6 : Only (fun k => k = Y) w5 (w5.setCell ⟨Y, 1, none⟩ (.slice (some ⟨G, 0, none⟩) 1 1)) := (Only.refl (fun k => k = Y) _).setCell (p := ⟨Y, 1, none⟩) (.inl rfl) _; rw [← HWB2.out] at y0 y1 y2 yz
   go_upto_region 6 with (fail)
   rw [HG.out, HWB2.out]; clear HG HWB2 x0 x1 x2 y0 y1 y2 yz; obtain ⟨w6, hw6⟩ := eX (w5.setCell ⟨Y, 1, none⟩ (.slice (some ⟨G, 0, none⟩) 1 1)); rw [hw6] at hy6 os6; rw [hw6]; clear hw6; have HY6 := hid hy6; have HD6 := hid (HD5.out.only os6 (fun k hk e => by omega)); have HJ6 := HJ5; have HGB2 := hid (kB os6 HGB.out (by omega)); have hr6 := kB os6 HR5.out (by omega); have HR6 := hid hr6; have HC4_6 := hid (HC4_5.out.trans' os6 (fun q hq e => by have e : q = Y := e; show q ≤ Y; omega)); have HO6 := hid (HO5.out.trans' os6 (fun q hq e => by have e : q = Y := e; have := HWB.out; omega)); clear hr6; have HC6_6 := hid (Only.refl (fun k => k ≤ Y) w6); clear hy6 os6 HJ5 HGB; clear HR5 HO5 HD5 HY5 HC4_5; have J := hid (fMust_any b all.in_ σ4 [93] w6 HD6.out)
   go_wp2_with fail
   refine J.out.mono ?_
   rintro e w7 ⟨rfl, hd, o4⟩; have hv : ∀ x q, (σ4.bind fun _ => wantP [93]) = .ok x q → True := fun _ _ _ => trivial
   obtain ⟨σ7, hσ⟩ := eX ((σ4.bind fun _ => wantP [93]).unit); rw [hσ] at hd; have hj := Jn.call (fun _ => True) HJ6.out hσ.symm hv; have HJ7 := hid hj; have HD7 := hid hd; clear hj hd hv hσ HJ6 J; have hr7 := kB o4 HR6.out (by omega); have HR7 := hid hr7; have hy7 := kB o4 HY6.out (by omega); have HY7 := hid hy7; have HC4_7 := hid (HC4_6.out.trans' o4 (fun q hq e => by have e : q = b := e; show q ≤ Y; omega)); have HC6_7 := hid (HC6_6.out.trans' o4 (fun q hq e => by have e : q = b := e; show q ≤ Y; omega)); have HO7 := hid (HO6.out.trans' o4 (fun q hq e => by exact e)); clear hr7 hy7; clear o4; clear HR6 HO6 HD6 HY6 HC4_6 HC6_6; have HJu := HJ7.out; unfold bangP at HJu; clear HJ7; have HJ7 := hid HJu; clear HJu; have J := hid (fEat_any b all.in_ σ7 [33] w7 HD7.out); unfold tookF at J; obtain ⟨bb8, hb8⟩ := eX (tst σ7 (isT [33])); rw [hb8] at J; have HBT := hid hb8; clear hb8
   cases bb8
   ·
    rw [if_neg (by decide)] at J
    go_wp2_with fail
    refine J.out.mono ?_
    rintro e w8 ⟨rfl, hd, o4⟩; have HJ8 := hid (HJ7.out.no HBT.out); have HD8 := hid hd; clear HJ7 hd HBT J; have hr8 := kB o4 HR7.out (by omega); have HR8 := hid hr8; have hy8 := kB o4 HY7.out (by omega); have HY8 := hid hy8; have HC4_8 := hid (HC4_7.out.trans' o4 (fun q hq e => by have e : q = b := e; show q ≤ Y; omega)); have HC6_8 := hid (HC6_7.out.trans' o4 (fun q hq e => by have e : q = b := e; show q ≤ Y; omega)); have HO8 := hid (HO7.out.trans' o4 (fun q hq e => by exact e)); clear hr8 hy8; clear o4; clear HR7 HO7 HD7 HY7 HC4_7 HC6_7; obtain ⟨y0, y1, y2, yz⟩ := boxN3 HY8.out
    go_upto_region 9 with (fail)
    clear y0 y1 y2 yz; have hy9 := heap_set (o := 2) HY8.out (.bool false); have hy9 : (w8.setCell ⟨Y, 2, none⟩ (.bool false)).heap[Y]? = some (.cells #[.string ⟨#[]⟩, .slice (some ⟨G, 0, none⟩) 1 1, .bool false] 41 (0, 0)) := by simpa using hy9
    have os9 : Only (fun k => k = Y) w8 (w8.setCell ⟨Y, 2, none⟩ (.bool false)) := (Only.refl (fun k => k = Y) _).setCell (p := ⟨Y, 2, none⟩) (.inl rfl) _; obtain ⟨w9, hw9⟩ := eX (w8.setCell ⟨Y, 2, none⟩ (.bool false)); rw [hw9] at hy9 os9; rw [hw9]; clear hw9; have HY9 := hid hy9; have HD9 := hid (HD8.out.only os9 (fun k hk e => by omega)); have HJ9 := HJ8; have hr9 := kB os9 HR8.out (by omega); have HR9 := hid hr9; have HC4_9 := hid (HC4_8.out.trans' os9 (fun q hq e => by have e : q = Y := e; show q ≤ Y; omega)); have HC6_9 := hid (HC6_8.out.trans' os9 (fun q hq e => by have e : q = Y := e; show q ≤ Y; omega)); have HO9 := hid (HO8.out.trans' os9 (fun q hq e => by have e : q = Y := e; have := HWB.out; omega)); clear hr9; clear hy9 os9 HJ8; clear HR8 HO8 HD8 HY8 HC4_8 HC6_8; obtain ⟨dv, kd2, kfz, -⟩ := Rf.dcell HD9.out; obtain ⟨xd, hxd⟩ := eX (IntKind.i64.wrap (dv - 1)); have hd10 := Rf.up HD9.out HDP.out kd2; rw [hxd] at hd10; have od10 : Only (fun k => k = b) w9 (w9.setCell ⟨b, 2, none⟩ (.int .i64 xd)) := (Only.refl (fun k => k = b) w9).setCell (.inl rfl) _; obtain ⟨w10, hw10⟩ := eX (w9.setCell ⟨b, 2, none⟩ (.int .i64 xd)); rw [hw10] at hd10 od10; have HD10 := hid hd10; have HW10 := hid hw10; have HJ10 := HJ9; clear hd10 hw10; have hr10 := kB od10 HR9.out (by omega); have HR10 := hid hr10; have hy10 := kB od10 HY9.out (by omega); have HY10 := hid hy10; have HC4_10 := hid (HC4_9.out.trans' od10 (fun q hq e => by have e : q = b := e; show q ≤ Y; omega)); have HC6_10 := hid (HC6_9.out.trans' od10 (fun q hq e => by have e : q = b := e; show q ≤ Y; omega)); have HO10 := hid (HO9.out.trans' od10 (fun q hq e => by exact e)); clear hr10 hy10
    go_upto_region 10 with (fail)
    rw [HW10.out]; clear hxd HW10 kd2 kfz od10 HJ9; clear HR9 HO9 HD9 HY9 HC4_9 HC6_9; obtain ⟨y0, y1, y2, yz⟩ := boxN3 HY10.out
    go_wp2_with ((refine wpList_store_box (o := ⟨none, _, _, _, _, _⟩) rfl 41 (.tmp 2) (.tmp 29) (by rfl) B [.string ⟨#[]⟩, .slice none 0 0, .bool false] [.string ⟨#[]⟩, .slice (some ⟨G, 0, none⟩) 1 1, .bool false] (by rfl) (by rfl) HR10.out (by rfl) (by kernel_rfl) (by intro u hu; simp at hu; rcases hu with rfl | rfl | rfl <;> rfl) ?_; intro w9 k1 k2))
    clear y0 y1 y2 yz; obtain ⟨y0, y1, y2, -⟩ := boxN3 k1; obtain ⟨hdn, hxs⟩ := HJ10.out.done; have hd9 : Rf w9 b all total.unit := by rw [← hdn]; exact HD10.out.only k2 (fun k hk e => by omega)
    have o4 := HC4_10.out.trans' k2 (fun q hq e => by have e : q = B := e; show q ≤ Y; omega); have o6 := HC6_10.out.trans' k2 (fun q hq e => by have e : q = B := e; show q ≤ Y; omega); have hag : ∀ x q, total = .ok x q → aggP B trC w9 x (.agg #[.string ⟨#[]⟩, .slice (some ⟨G, 0, none⟩) 1 1, .bool false]) := fun x q e => by
     obtain ⟨⟨⟨u, t1⟩, u2⟩, rfl, ⟨⟨-, k1⟩, -⟩⟩ := hxs x q e; have k9 := CellsAt.only o4 (fun k hk e => by have hk : Y < k := hk; have e : k ≤ Y := e; omega) _ _ k1; have g9 := kB o6 HGB2.out (by show ¬ G ≤ Y; omega); exact ⟨_, rfl, CellsAt.lit rfl (CellsAt.cons (CellAt.weaken (fun q _ h => by have h : Y < q := h; show B ≤ q; omega) _ _ (row_one g9 k9 hYG rfl)) (CellsAt.lit rfl (CellsAt.nil _ _)))⟩
    exact bodyPost_ret (v := .agg #[.string ⟨#[]⟩, .slice (some ⟨G, 0, none⟩) 1 1, .bool false]) (by simp [results, Tryz.results72, go_sem, y0, y1, y2]) rfl (HPP.out w9 _ ⟨[], (some ⟨G, 0, none⟩), 1, 1, false, rfl⟩ hd9 hag (HO10.out.trans' k2 (fun q hq e => by have := HWB.out; omega)))
   ·
    rw [if_pos rfl] at J
    go_wp2_with fail
    refine J.out.mono ?_
    rintro e w8 ⟨rfl, hd, o4⟩; have HJ8 := hid (Jn.adv (F := fun (p : (Unit × TR) × Unit) r => .ok (TR.ls p.1.2 true) r) (HJ7.out.yes HBT.out)); obtain ⟨σ8, hσ⟩ := eX (adv σ7); rw [hσ] at hd HJ8; clear hσ; have HD8 := hid hd; clear HJ7 hd HBT J; have hr8 := kB o4 HR7.out (by omega); have HR8 := hid hr8; have hy8 := kB o4 HY7.out (by omega); have HY8 := hid hy8; have HC4_8 := hid (HC4_7.out.trans' o4 (fun q hq e => by have e : q = b := e; show q ≤ Y; omega)); have HC6_8 := hid (HC6_7.out.trans' o4 (fun q hq e => by have e : q = b := e; show q ≤ Y; omega)); have HO8 := hid (HO7.out.trans' o4 (fun q hq e => by exact e)); clear hr8 hy8; clear o4; clear HR7 HO7 HD7 HY7 HC4_7 HC6_7; obtain ⟨y0, y1, y2, yz⟩ := boxN3 HY8.out
    go_upto_region 9 with (fail)
    clear y0 y1 y2 yz; have hy9 := heap_set (o := 2) HY8.out (.bool true); have hy9 : (w8.setCell ⟨Y, 2, none⟩ (.bool true)).heap[Y]? = some (.cells #[.string ⟨#[]⟩, .slice (some ⟨G, 0, none⟩) 1 1, .bool true] 41 (0, 0)) := by simpa using hy9
    have os9 : Only (fun k => k = Y) w8 (w8.setCell ⟨Y, 2, none⟩ (.bool true)) := (Only.refl (fun k => k = Y) _).setCell (p := ⟨Y, 2, none⟩) (.inl rfl) _; obtain ⟨w9, hw9⟩ := eX (w8.setCell ⟨Y, 2, none⟩ (.bool true)); rw [hw9] at hy9 os9; rw [hw9]; clear hw9; have HY9 := hid hy9; have HD9 := hid (HD8.out.only os9 (fun k hk e => by omega)); have HJ9 := HJ8; have hr9 := kB os9 HR8.out (by omega); have HR9 := hid hr9; have HC4_9 := hid (HC4_8.out.trans' os9 (fun q hq e => by have e : q = Y := e; show q ≤ Y; omega)); have HC6_9 := hid (HC6_8.out.trans' os9 (fun q hq e => by have e : q = Y := e; show q ≤ Y; omega)); have HO9 := hid (HO8.out.trans' os9 (fun q hq e => by have e : q = Y := e; have := HWB.out; omega)); clear hr9; clear hy9 os9 HJ8; clear HR8 HO8 HD8 HY8 HC4_8 HC6_8; obtain ⟨dv, kd2, kfz, -⟩ := Rf.dcell HD9.out; obtain ⟨xd, hxd⟩ := eX (IntKind.i64.wrap (dv - 1)); have hd10 := Rf.up HD9.out HDP.out kd2; rw [hxd] at hd10; have od10 : Only (fun k => k = b) w9 (w9.setCell ⟨b, 2, none⟩ (.int .i64 xd)) := (Only.refl (fun k => k = b) w9).setCell (.inl rfl) _; obtain ⟨w10, hw10⟩ := eX (w9.setCell ⟨b, 2, none⟩ (.int .i64 xd)); rw [hw10] at hd10 od10; have HD10 := hid hd10; have HW10 := hid hw10; have HJ10 := HJ9; clear hd10 hw10; have hr10 := kB od10 HR9.out (by omega); have HR10 := hid hr10; have hy10 := kB od10 HY9.out (by omega); have HY10 := hid hy10; have HC4_10 := hid (HC4_9.out.trans' od10 (fun q hq e => by have e : q = b := e; show q ≤ Y; omega)); have HC6_10 := hid (HC6_9.out.trans' od10 (fun q hq e => by have e : q = b := e; show q ≤ Y; omega)); have HO10 := hid (HO9.out.trans' od10 (fun q hq e => by exact e)); clear hr10 hy10
    go_upto_region 10 with (fail)
    rw [HW10.out]; clear hxd HW10 kd2 kfz od10 HJ9; clear HR9 HO9 HD9 HY9 HC4_9 HC6_9; obtain ⟨y0, y1, y2, yz⟩ := boxN3 HY10.out
    go_wp2_with ((refine wpList_store_box (o := ⟨none, _, _, _, _, _⟩) rfl 41 (.tmp 2) (.tmp 29) (by rfl) B [.string ⟨#[]⟩, .slice none 0 0, .bool false] [.string ⟨#[]⟩, .slice (some ⟨G, 0, none⟩) 1 1, .bool true] (by rfl) (by rfl) HR10.out (by rfl) (by kernel_rfl) (by intro u hu; simp at hu; rcases hu with rfl | rfl | rfl <;> rfl) ?_; intro w9 k1 k2))
    clear y0 y1 y2 yz; obtain ⟨y0, y1, y2, -⟩ := boxN3 k1; obtain ⟨hdn, hxs⟩ := HJ10.out.done; have hd9 : Rf w9 b all total.unit := by rw [← hdn]; exact HD10.out.only k2 (fun k hk e => by omega)
    have o4 := HC4_10.out.trans' k2 (fun q hq e => by have e : q = B := e; show q ≤ Y; omega); have o6 := HC6_10.out.trans' k2 (fun q hq e => by have e : q = B := e; show q ≤ Y; omega); have hag : ∀ x q, total = .ok x q → aggP B trC w9 x (.agg #[.string ⟨#[]⟩, .slice (some ⟨G, 0, none⟩) 1 1, .bool true]) := fun x q e => by
     obtain ⟨⟨⟨u, t1⟩, u2⟩, rfl, ⟨⟨-, k1⟩, -⟩⟩ := hxs x q e; have k9 := CellsAt.only o4 (fun k hk e => by have hk : Y < k := hk; have e : k ≤ Y := e; omega) _ _ k1; have g9 := kB o6 HGB2.out (by show ¬ G ≤ Y; omega); exact ⟨_, rfl, CellsAt.lit rfl (CellsAt.cons (CellAt.weaken (fun q _ h => by have h : Y < q := h; show B ≤ q; omega) _ _ (row_one g9 k9 hYG rfl)) (CellsAt.lit rfl (CellsAt.nil _ _)))⟩
    exact bodyPost_ret (v := .agg #[.string ⟨#[]⟩, .slice (some ⟨G, 0, none⟩) 1 1, .bool true]) (by simp [results, Tryz.results72, go_sem, y0, y1, y2]) rfl (HPP.out w9 _ ⟨[], (some ⟨G, 0, none⟩), 1, 1, true, rfl⟩ hd9 hag (HO10.out.trans' k2 (fun q hq e => by have := HWB.out; omega)))
def muF (w : World) (b : Nat) (all : RL) : Nat := match w.cell? ⟨b, 4, none⟩ with
 | some (.int _ e) => if e = 0 then (match w.cell? ⟨b, 1, none⟩ with | some (.int _ i) => all.ts.length - i.toNat + 1 | _ => 0) else 0
 | _ => 0
theorem muF_ok {w : World} {b : Nat} {all : RL} {u : Unit} {r : List Tok} (h : Rf w b all (.ok u r)) : muF w b all = r.length + 1 := by
 obtain ⟨i, dv, bd, e, h, rfl, h2, h3, j, rfl, h4, h5⟩ := h; obtain ⟨g, off, c, h1, -⟩ := h.row; have c4 : w.cell? ⟨b, 4, none⟩ = some (.int .i64 0) := by simp [World.cell?, h1]
 have c1 : w.cell? ⟨b, 1, none⟩ = some (.int .i64 (j : Int)) := by simp [World.cell?, h1]
 unfold muF; rw [c4, c1]; simp; omega
theorem muF_bad {w : World} {b : Nat} {all : RL} {a c : Nat} (h : Rf w b all (.bad a c)) : muF w b all = 0 := by
 obtain ⟨h1, v, i, dv, c0, c1, c2, c3, c4, fz⟩ := h.bad_cells; unfold muF; rw [c4]; simp; omega
theorem Rf.few {w : World} {b : Nat} {all : RL} {u : Unit} {r : List Tok} (h : Rf w b all (.ok u r)) : r.length ≤ 1000000 ∧ 0 < r.length := by
 obtain ⟨i, dv, bd, e, h, rfl, h2, h3, j, rfl, h4, h5⟩ := h; have h8 := h.few; refine ⟨by omega, ?_⟩
 cases r with
 | nil => exact h3.elim
 | cons t u => simp
section
variable {α : Type} {p : List Tok → PR α} {c : List UInt8}
def loopP (p : List Tok → PR α) (c : List UInt8) (first : Bool) (acc : List α) (r : List Tok) : PR (List α) := if first then (p r).bind fun x r1 => anyP p c (r1.length + 1) (acc ++ [x]) r1 else anyP p c (r.length + 1) acc r
theorem manyP_loop (hp : Takes p) : ∀ (n : Nat) (acc : List α) (r : List Tok), r.length < n → manyP p c n acc r = loopP p c true acc r
 | 0, _, _, h => by omega
 | n + 1, acc, r, h => by
  rw [manyP]
  show _ = (p r).bind fun x r1 => anyP p c (r1.length + 1) (acc ++ [x]) r1
  cases hq : p r with
  | bad a e => rfl
  | ok x r1 =>
   have hl := hp _ _ _ hq
   show (if isT c r1 = true then PR.ok (acc ++ [x]) r1.tail else manyP p c n (acc ++ [x]) r1) = anyP p c (r1.length + 1) (acc ++ [x]) r1
   rw [anyP]
   by_cases hb : isT c r1 = true
   ·rw [if_pos hb, if_pos hb]
   ·rw [if_neg hb, if_neg hb, manyP_loop hp n _ _ (by omega)]
    show ((p r1).bind fun y r2 => anyP p c (r2.length + 1) (acc ++ [x] ++ [y]) r2) = _
    cases hq2 : p r1 with
    | bad a e => rfl
    | ok y r2 =>
     have hl2 := hp _ _ _ hq2; exact anyP_fuel hp c _ _ _ _ (by omega) (by omega)
theorem loop_step (hp : Takes p) {first : Bool} {acc : List α} {r : List Tok} (hcl : first = true ∨ isT c r = false) : loopP p c first acc r = (p r).bind fun x r1 => loopP p c false (acc ++ [x]) r1 := by
 cases first with
 | true => rfl
 | false =>
  have hb : isT c r = false := hcl.resolve_left (by decide)
  show anyP p c (r.length + 1) acc r = (p r).bind fun x r1 => anyP p c (r1.length + 1) (acc ++ [x]) r1
  rw [anyP, if_neg (by rw [hb]; decide)]
  cases hq : p r with
  | bad a e => rfl
  | ok x r1 =>
   have hl := hp _ _ _ hq; exact anyP_fuel hp c _ _ _ _ (by omega) (by omega)
theorem loop_stop {acc : List α} {r : List Tok} (hb : isT c r = true) : loopP p c false acc r = .ok acc r.tail := by
 show anyP p c (r.length + 1) acc r = _
 rw [anyP, if_pos hb]
structure LS (p : List Tok → PR α) (c : List UInt8) (total : PR (List α)) (first : Bool) (n : Nat) (K : List α → Prop) (σ : PR Unit) : Prop where
 few : n ≤ 1000000
 ok : ∀ u r, σ = .ok u r → n + r.length ≤ 1000000 ∧ ∃ acc : List α, acc.length = n ∧ K acc ∧ total = loopP p c first acc r
 bad : ∀ a e, σ = .bad a e → total = .bad a e
theorem LS.start (first : Bool) {K : List α → Prop} (hK : K []) {σ : PR Unit} (hf : ∀ u r, σ = .ok u r → r.length ≤ 1000000) : LS p c (σ.bind fun _ r => loopP p c first [] r) first 0 K σ :=
 ⟨by omega, fun u r e => ⟨by have := hf u r e; omega, [], rfl, hK, by rw [e]; rfl⟩, fun a d e => by rw [e]; rfl⟩
theorem LS.next {total : PR (List α)} {first : Bool} {n : Nat} {K K' : List α → Prop} {u : Unit} {r : List Tok} (h : LS p c total first n K (.ok u r)) (hp : Takes p) (hpos : 0 < r.length) (hcl : first = true ∨ isT c r = false) (hK : ∀ acc x q, K acc → p r = .ok x q → K' (acc ++ [x])) : LS p c total false (n + 1) K' (p r).unit := by
 obtain ⟨h1, acc, h2, h3, h4⟩ := h.ok _ _ rfl; rw [loop_step hp hcl] at h4
 cases hq : p r with
 | bad a e =>
  rw [hq] at h4; exact ⟨by omega, fun u r e => (by cases e), fun a' e' e => (by injection e with e1 e2; subst e1; subst e2; exact h4)⟩
 | ok x r1 =>
  rw [hq] at h4; have hl := hp _ _ _ hq; refine ⟨by omega, fun u r e => ?_, fun a e h => by cases h⟩
  injection e with _ e
  subst e; exact ⟨by omega, acc ++ [x], by rw [List.length_append, h2]; rfl, hK _ _ _ h3 hq, h4⟩
theorem LS.stop {total : PR (List α)} {n : Nat} {K : List α → Prop} {u : Unit} {r : List Tok} (h : LS p c total false n K (.ok u r)) (hb : isT c r = true) : ∃ acc, K acc ∧ total = .ok acc r.tail := by
 obtain ⟨_, acc, _, h3, h4⟩ := h.ok _ _ rfl; exact ⟨acc, h3, h4.trans (loop_stop hb)⟩
theorem elem_row {P : PR α} {enc : α → List Cell} {w : World} {G : Nat → Prop} {ys : List Value} (hv : ∀ x q, P = .ok x q → CellsAt w G (enc x) ys) (h1 : ∀ u ∈ ys, u.oneCell' = true) : ∃ row, CellsAt w G row ys ∧ ∀ x q, P = .ok x q → row = enc x := by
 cases P with
 | ok x q => exact ⟨enc x, hv x q rfl, fun y q' e => by injection e with e _; rw [e]⟩
 | bad a e =>
  refine ⟨ys.map Cell.lit, ?_, fun y q' e => by cases e⟩
  clear hv
  induction ys with
  | nil => exact CellsAt.nil _ _
  | cons u us ih => exact CellsAt.lit (h1 u (by simp)) (ih (fun v hv => h1 v (by simp [hv])))
end
end Go.Proofs.YtnkpoddbbdmipaaGreatDoor
