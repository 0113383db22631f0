/- . -/
import Derived.Test.YtnkpoddbbdmipaaGreatDoorTDcRfv
import Derived.Test.YtnkpoddbbdmipaaGreatDoorTDcCtw
namespace Go.Proofs.YtnkpoddbbdmipaaGreatDoor
open Go Go.RowKit
open Go.Lib (hid)
set_option linter.unusedVariables false
set_option linter.unusedSimpArgs false
set_option maxRecDepth 100000 in
set_option maxHeartbeats 8000000 in
theorem fValue_any : ∀ (n : Nat) (fx : Bool) (b : Nat) (all : RL) (σ0 : PR Unit) (w : World), all.dp + n = 24 → Rf w b all σ0 →
  Calls Tryz.prog 73 #[.pointer (some ⟨b, 0, none⟩), .bool fx] w (FAns w b all σ0 (fun w' x v => aggP w.heap.size valC w' x v) valF (valueP fx n))
 | n, fx, b, all, .bad a c, w, hdp, h => (fValue_stop b all (by omega) (.bad a c) a c fx w (by unfold opn; split <;> rfl) h).mono fun e w' ⟨h1, h2, h3⟩ => ⟨_, h1, ⟨0, 0, [], none, 0, 0, none, 0, 0, rfl⟩, h2, fun x q e => (by cases e), h3⟩
 | 0, fx, b, all, .ok u r, w, hdp, h => (fValue_stop b all (by omega) (.ok u r) (atT r) 5 fx w (if_pos (by omega)) h).mono fun e w' ⟨h1, h2, h3⟩ => ⟨_, h1, ⟨0, 0, [], none, 0, 0, none, 0, 0, rfl⟩, h2, fun x q e => (by cases e), h3⟩
 | n + 1, fx, b, all, .ok u r, w, hdp, h => by
  have hbl := h.lt; have hopn : opn all.dp (.ok u r) = .ok () r := if_neg (by omega); obtain ⟨B, hB⟩ := eX (w.heap.size); have hbB : b < B := by omega
  obtain ⟨P, hP⟩ := eX (valueB fx (valueP fx n) r); have HP : ∀ w' v, valF v → Rf w' b all P.unit → (∀ x q, P = .ok x q → aggP B valC w' x v) → Only (fun k => k = b) w w' → FAns w b all (.ok u r) (fun w' x v => aggP w.heap.size valC w' x v) valF (valueP fx (n + 1)) (.returned v) w' := fun w' v q1 q2 q3 q4 => ⟨v, rfl, q1, by rw [show ((PR.ok u r : PR Unit).bind fun _ => valueP fx (n + 1)) = P from hP]; exact q2, fun x q e => by rw [hB]; exact q3 x q (hP.symm.trans e), q4⟩
  obtain ⟨w0, hw0⟩ := eX (w.alloc (.cells #[.int .u8 0, .int .i64 0, .string ⟨#[]⟩, .slice none 0 0, .slice none 0 0] 35)); obtain ⟨w1, hw1⟩ := eX (w0.alloc (.cells #[.int .u8 0, .int .i64 0, .string ⟨#[]⟩, .slice none 0 0, .slice none 0 0] 35)); obtain ⟨Y, hY⟩ := eX (w0.heap.size); have hs0 : w0.heap.size = B + 1 := by rw [← hw0, World.size_alloc, hB]
  have hr0 : w0.heap[B]? = some (.cells #[.int .u8 0, .int .i64 0, .string ⟨#[]⟩, .slice none 0 0, .slice none 0 0] 35 (0, 0)) := by rw [← hw0, ← hB]; exact heap_new _ _
  have hr1 : w1.heap[B]? = some (.cells #[.int .u8 0, .int .i64 0, .string ⟨#[]⟩, .slice none 0 0, .slice none 0 0] 35 (0, 0)) := by rw [← hw1]; exact heap_old hr0 _
  have hy1 : w1.heap[Y]? = some (.cells #[.int .u8 0, .int .i64 0, .string ⟨#[]⟩, .slice none 0 0, .slice none 0 0] 35 (0, 0)) := by rw [← hw1, ← hY]; exact heap_new _ _
  have o1 : Only (fun _ => False) w w1 := by rw [← hw1, ← hw0]; exact ((Only.refl _ w).alloc _).alloc _
  have J := hid (fOpen_any b all (by omega) (.ok u r) w1 (h.still o1)); rw [hopn] at J; have hBY : B < Y := by omega
  have IH := hid (fun (w' : World) (h' : Rf w' b all.in_ (.ok () r)) => fvalue_any n fx b all.in_ (by show all.dp + 1 + n = 24; omega) (fun σ w2 h2 => fValue_any n fx b all.in_ σ w2 (by show all.dp + 1 + n = 24; omega) h2) r w' h'); have HDP := hid (show all.dp ≤ 1000 by omega); have HPP := hid HP; have HPE := hid hP; have HB := hid hB; have HW0 := hid hw0; have HW1 := hid hw1; have HY := hid hY; have HR1 := hid hr1; have HY1 := hid hy1; have O1 := hid o1; have HWB := hid (show w.heap.size ≤ B by omega); clear HP hP hB hw0 hw1 hY hs0 hr0 hr1 hy1 o1 h hbl hopn hdp
  generalize (FAns w b all (.ok u r) (fun w' x v => aggP w.heap.size valC w' x v) valF (valueP fx (n + 1))) = Q at *
  go_enter Tryz.func73, Tryz.ntmps73
  go_upto_region 1 with (fail)
  rw [HB.out, HW0.out]
  go_upto_region 2 with (fail)
  rw [HY.out, HW1.out]; clear HW0 HW1
  go_wp2_with fail
  refine J.out.mono ?_
  rintro e w2 ⟨rfl, hd2, o2⟩; have hr2 := kB o2 HR1.out (by omega); have hy2 := kB o2 HY1.out (by omega); have J2 := hid (IH.out w2 hd2); have HR2 := hid hr2; have HY2 := hid hy2; have HO2 := hid ((O1.out.mono (T := fun k => k = b) (fun _ _ h => h.elim)).trans o2); clear hd2 hr2 hy2 o2 J IH HR1 HY1 O1 HY
  go_wp2_with fail
  refine J2.out.mono ?_
  rintro e w3 ⟨v, rfl, ⟨kd, nm, sv, a1, l1, p1, a2, l2, p2, rfl⟩, hd, hv, o3⟩; have hsz : B < w2.heap.size := (gE HR2.out).1; have hsy : Y < w2.heap.size := (gE HY2.out).1; have hd : Rf w3 b all.in_ (valueB fx (valueP fx n) r).unit := hd; rw [HPE.out] at hd; have hvc : ∀ x q, P = .ok x q → CellsAt w3 (fun q => Y < q) (valC x) [.int .u8 (kd : Int), .int .i64 nm, .string ⟨sv.toArray⟩, .slice a1 l1 p1, .slice a2 l2 p2] := fun x q e => CellsAt.weaken (fun q _ h => by have h : w2.heap.size ≤ q := h; show Y < q; omega) _ _ (aggF_cells (hv x q (show valueB fx (valueP fx n) r = .ok x q from HPE.out.trans e)))
  have HR3 := hid (kB o3 HR2.out (by omega)); have HY3 := hid (kB o3 HY2.out (by omega)); have HO3 := hid (HO2.out.trans o3); have HD3 := hid hd; have HVC := hid hvc; clear hd hv hvc o3 J2 HR2 HY2 HO2
  go_upto_region 4 with ((refine wpList_store_box (o := ⟨none, _, _, _, _, _⟩) rfl 35 (.tmp 5) (.tmp 10) (by rfl) Y [.int .u8 0, .int .i64 0, .string ⟨#[]⟩, .slice none 0 0, .slice none 0 0] [.int .u8 (kd : Int), .int .i64 nm, .string ⟨sv.toArray⟩, .slice a1 l1 p1, .slice a2 l2 p2] (by rfl) (by rfl) HY3.out (by rfl) (by kernel_rfl) (by intro u hu; simp at hu; rcases hu with rfl | rfl | rfl | rfl | rfl <;> rfl) ?_; intro w4 k1 k2))
  have HY4 := hid (show w4.heap[Y]? = some (.cells #[.int .u8 (kd : Int), .int .i64 nm, .string ⟨sv.toArray⟩, .slice a1 l1 p1, .slice a2 l2 p2] 35 (0, 0)) from k1); have HR4 := hid (kB k2 HR3.out (by omega)); have hd4 := HD3.out.only k2 (fun k hk e => by have e : k = Y := e; omega); obtain ⟨dv, kd2, kfz, -⟩ := Rf.dcell hd4; obtain ⟨xd, hxd⟩ := eX (IntKind.i64.wrap (dv - 1)); have hd5 := Rf.up hd4 HDP.out kd2; rw [hxd] at hd5; have o5 : Only (fun k => k = b) w4 (w4.setCell ⟨b, 2, none⟩ (.int .i64 xd)) := (Only.refl (fun k => k = b) w4).setCell (.inl rfl) _; have hO5 : Only (fun k => k = b) w (w4.setCell ⟨b, 2, none⟩ (.int .i64 xd)) := (HO3.out.trans' k2 (fun q hq e => by have e : q = Y := e; have := HWB.out; omega)).trans o5; have hvc5 : ∀ x q, P = .ok x q → CellsAt (w4.setCell ⟨b, 2, none⟩ (.int .i64 xd)) (fun q => Y < q) (valC x) [.int .u8 (kd : Int), .int .i64 nm, .string ⟨sv.toArray⟩, .slice a1 l1 p1, .slice a2 l2 p2] := fun x q e => CellsAt.only o5 (fun k hk e => by have hk : Y < k := hk; have e : k = b := e; omega) _ _ (CellsAt.only k2 (fun k hk e => by have hk : Y < k := hk; have e : k = Y := e; omega) _ _ (HVC.out x q e))
  obtain ⟨w5, hw5⟩ := eX (w4.setCell ⟨b, 2, none⟩ (.int .i64 xd)); rw [hw5] at hd5 o5 hO5 hvc5; have HR5 := hid (kB o5 HR4.out (by omega)); have HY5 := hid (kB o5 HY4.out (by omega)); have HD5 := hid hd5; have HO5 := hid hO5; have HW5 := hid hw5; have HV5 := hid hvc5; clear hd5 hO5 hw5 hvc5 o5 hd4 k1 k2 HY4 HR4 HR3 HY3 HO3 HD3 HVC hsz hsy
  go_upto_region 5 with (fail)
  rw [HW5.out]; clear hxd HW5 kd2 kfz; obtain ⟨y0, y1, y2, y3, y4, yz⟩ := boxN5 HY5.out
  go_wp2_with ((refine wpList_store_box (o := ⟨none, _, _, _, _, _⟩) rfl 35 (.tmp 4) (.tmp 18) (by rfl) B [.int .u8 0, .int .i64 0, .string ⟨#[]⟩, .slice none 0 0, .slice none 0 0] [.int .u8 (kd : Int), .int .i64 nm, .string ⟨sv.toArray⟩, .slice a1 l1 p1, .slice a2 l2 p2] (by rfl) (by rfl) HR5.out (by rfl) (by kernel_rfl) (by intro u hu; simp at hu; rcases hu with rfl | rfl | rfl | rfl | rfl <;> rfl) ?_; intro w9 k1 k2))
  clear y0 y1 y2 y3 y4 yz; obtain ⟨y0, y1, y2, y3, y4, -⟩ := boxN5 k1; exact bodyPost_ret (v := .agg #[.int .u8 (kd : Int), .int .i64 nm, .string ⟨sv.toArray⟩, .slice a1 l1 p1, .slice a2 l2 p2]) (by simp [results, Tryz.results73, go_sem, y0, y1, y2, y3, y4]) rfl (HPP.out w9 _ ⟨kd, nm, sv, a1, l1, p1, a2, l2, p2, rfl⟩ (HD5.out.only k2 (fun k hk e => by have e : k = B := e; omega)) (fun x q e => ⟨_, rfl, CellsAt.weaken (fun q _ h => by have h : Y < q := h; show B ≤ q; omega) _ _ (CellsAt.only k2 (fun k hk e => by have hk : Y < k := hk; have e : k = B := e; omega) _ _ (HV5.out x q e))⟩) (HO5.out.trans' k2 (fun q hq e => by have e : q = B := e; have := HWB.out; omega)))
def LI {α : Type} (p : List Tok → PR α) (c : List UInt8) (enc : α → List Cell) (N : Nat) (T : TypeId) (total : PR (List α)) (w : World) (b : Nat) (all : RL) (lo : Nat) (v : Value) (first : Bool) (wr : World) : Prop :=
 ∃ (σ : PR Unit) (rs : List (List Cell)), Rf wr b all σ ∧ OwnRow wr lo T N v rs ∧ Only (fun k => k = b) w wr ∧ LS p c total first rs.length (fun acc => rs = acc.map enc) σ
def rowF (v : Value) : Prop := ∃ (a : Option Addr) (l c : Nat), v = .slice a l c
end Go.Proofs.YtnkpoddbbdmipaaGreatDoor
