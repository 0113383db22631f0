/- . -/
import Derived.Test.YtnkpoddbbdmipaaGreatDoorTApOwC
import Derived.Test.YtnkpoddbbdmipaaGreatDoorTApPnt
import Derived.Test.YtnkpoddbbdmipaaGreatDoorTApRgA
import Derived.Laws.IdiomStrings
import Derived.Deep.Cut
import Derived.Deep.CutRange
import Derived.Deep.CutBlock
import Derived.StillTailTactics
import Derived.Deep.QuietTactic
import Derived.BigQuiet
namespace Go.Proofs.YtnkpoddbbdmipaaGreatDoor
open Go Go.RowKit
open Go.Lib (hid)
set_option linter.unusedVariables false
set_option linter.unusedSimpArgs false
def quoP : List (List UInt8) := [[92], [92, 92], [34], [92, 34], [10], [92, 110], [9], [92, 116]]
theorem infoStrQ : (Tryz.prog.info? 9).map (fun i => (i.zero, i.size, i.bytes)) = some (some (.string ByteArray.empty), 1, 16) := by kernel_rfl
theorem run_equalIn_nilQ {P : Program} (w : World) (d : Nat) (t e : TypeId) (a : Option Addr) (l c : Nat) (h : P.underlying t = some (.slice e)) : (Op.equalIn (d + 1) t (.slice a l c) (.slice none 0 0)).run P w = .ok a.isNone w := by
 cases a <;> simp [Op.equalIn, run_underlying h]
theorem eql_nilQ (w : World) (a : Option Addr) (n c : Nat) : (binOp .eql 117 (.slice a n c) (.slice none 0 0)).run Tryz.prog w = .ok (.bool a.isNone) w := by
 simp [binOp, Op.equal, Op.maxDepth, run_equalIn_nilQ (P := Tryz.prog) w 9999 117 5 a n c Tryz.underlying117]
theorem neq_nilQ (w : World) (a : Option Addr) (n c : Nat) : (binOp .neq 117 (.slice a n c) (.slice none 0 0)).run Tryz.prog w = .ok (.bool (!a.isNone)) w := by
 simp [binOp, Op.equal, Op.maxDepth, run_equalIn_nilQ (P := Tryz.prog) w 9999 117 5 a n c Tryz.underlying117]
def repL (f : Nat → Value) (tv : Value) : List Value := (List.range 256).map f ++ [tv]
theorem repL_len (f : Nat → Value) (tv : Value) : (repL f tv).length = 257 := by simp [repL]
theorem repL_get (f : Nat → Value) (tv : Value) {c : Nat} (h : c < 256) : (repL f tv)[c]? = some (f c) := by
 unfold repL; rw [List.getElem?_append_left (by simpa using h), List.getElem?_map, List.getElem?_range h]; rfl
theorem repL_tv (f : Nat → Value) (tv : Value) : (repL f tv)[256]? = some tv := by
 unfold repL; rw [List.getElem?_append_right (by simp)]; simp
theorem repL_set (f : Nat → Value) (tv v : Value) {c : Nat} (h : c < 256) : (repL f tv).set c v = repL (fun i => if i = c then v else f i) tv := by
 refine List.ext_getElem? fun i => ?_
 rw [List.getElem?_set]
 by_cases h2 : i < 256
 ·rw [repL_get (fun i => if i = c then v else f i) _ h2]
  by_cases e : c = i
  ·subst e; rw [if_pos rfl, if_pos (by rw [repL_len]; omega), if_pos rfl]
  ·rw [if_neg e, repL_get _ _ h2, if_neg (fun x => e x.symm)]
 ·rw [if_neg (by omega)]
  by_cases e : i = 256
  ·subst e; rw [repL_tv, repL_tv]
  ·rw [List.getElem?_eq_none (by rw [repL_len]; omega), List.getElem?_eq_none (by rw [repL_len]; omega)]
theorem repL_setv (f : Nat → Value) (tv v : Value) : (repL f tv).set 256 v = repL f v := by
 unfold repL; rw [List.set_append_right _ _ (by simp)]; simp
theorem repL_zero : Tryz.zeroCells183 = (repL (fun _ => .slice none 0 0) (.slice none 0 0)).toArray := by kernel_rfl
theorem repB {w : World} {X : Nat} {f : Nat → Value} {tv : Value} (h : w.heap[X]? = some (.cells (repL f tv).toArray 183 (0, 0))) : w.cell? ⟨X, 256, none⟩ = some tv ∧ (∀ c, c < 256 → w.cell? ⟨X, c, none⟩ = some (f c)) ∧ ∀ o, w.frozen? ⟨X, o, none⟩ = false := by
 refine ⟨?_, fun c hc => ?_, fun o => by simp [World.frozen?, h]⟩
 ·simp only [World.cell?, h]; have := repL_tv f tv; simpa using this
 ·simp only [World.cell?, h]; have := repL_get f tv hc; simpa using this
structure RepF (w : World) (B X : Nat) (P : List UInt8) (f : Nat → Value) (tv : Value) : Prop where
 box : w.heap[X]? = some (.cells (repL f tv).toArray 183 (0, 0))
 low : B ≤ X
 own : w.ownsRow B 9 1 tv P.length (P.map fun u => .string ⟨#[u]⟩)
 apart : tv.ownBlock ≠ some X
 yes : ∀ u ∈ P, ∃ g k z, f u.toNat = .slice (some ⟨g, 0, none⟩) 2 k ∧ B ≤ g ∧ g < w.heap.size ∧ g ≠ X ∧ tv.ownBlock ≠ some g ∧ 2 ≤ k ∧ k ≤ 9223372036854775807 ∧ esc1 u = [92, z] ∧ w.cell? ⟨g, 0, none⟩ = some (.int .u8 92) ∧ w.cell? ⟨g, 1, none⟩ = some (.int .u8 (z.toNat : Int))
 no : ∀ c, (∀ u ∈ P, u.toNat ≠ c) → f c = .slice none 0 0
theorem RepF.get {w : World} {B X : Nat} {P : List UInt8} {f : Nat → Value} {tv : Value} (h : RepF w B X P f tv) {c : Nat} (hc : c < 256) : w.cell? ⟨X, c, none⟩ = some (f c) := by
 simp only [World.cell?, h.box]; have := repL_get f tv hc; simpa using this
theorem RepF.getv {w : World} {B X : Nat} {P : List UInt8} {f : Nat → Value} {tv : Value} (h : RepF w B X P f tv) : w.cell? ⟨X, 256, none⟩ = some tv := by
 simp only [World.cell?, h.box]; have := repL_tv f tv; simpa using this
theorem RepF.step {w w9 w11 : World} {B X : Nat} {P : List UInt8} {f : Nat → Value} {tv tv' : Value} (h : RepF w B X P f tv) (u z : UInt8) (hn : ∀ x ∈ P, x ≠ u) (g k : Nat)
  (o9 : Only (fun j => tv.ownBlock = some j) w w9) (hrow : w9.ownsRow B 9 1 tv' (P.length + 1) (P.map (fun u => Value.string ⟨#[u]⟩) ++ [.string ⟨#[u]⟩])) (hown : ∀ j, tv'.ownBlock = some j → tv.ownBlock = some j ∨ w.heap.size ≤ j)
  (o11 : Only (fun _ => False) (w9.setCell ⟨X, 256, none⟩ tv') w11) (hg : (w9.setCell ⟨X, 256, none⟩ tv').heap.size ≤ g) (hg2 : g < w11.heap.size) (hk : 2 ≤ k) (hk2 : k ≤ 9223372036854775807) (he : esc1 u = [92, z])
  (c0 : w11.cell? ⟨g, 0, none⟩ = some (.int .u8 92)) (c1 : w11.cell? ⟨g, 1, none⟩ = some (.int .u8 (z.toNat : Int))) :
  ∃ f', RepF (w11.setCell ⟨X, u.toNat, none⟩ (.slice (some ⟨g, 0, none⟩) 2 k)) B X (P ++ [u]) f' tv' := by
 have hX := (gE h.box).1; have hX9 : X < w9.heap.size := Nat.lt_of_lt_of_le hX o9.size; have hs10 : (w9.setCell ⟨X, 256, none⟩ tv').heap.size = w9.heap.size := by simp [World.setCell]
 have b9 := (o9.block X hX h.apart).trans h.box; have b10 := heap_set (o := 256) b9 tv'; rw [List.setIfInBounds_toArray, repL_setv] at b10; have b11 := (o11.block X (by omega) (fun e => e)).trans b10; have b12 := heap_set (o := u.toNat) b11 (.slice (some ⟨g, 0, none⟩) 2 k); rw [List.setIfInBounds_toArray, repL_set _ _ _ (UInt8.toNat_lt u)] at b12; have hap : tv'.ownBlock ≠ some X := fun e => by
  rcases hown X e with e | e
  ·exact h.apart e
  ·omega
 have o10 : Only (fun j => j = X) w9 (w9.setCell ⟨X, 256, none⟩ tv') := (Only.refl (fun j => j = X) w9).setCell (p := ⟨X, 256, none⟩) (.inl rfl) _; have o12 : Only (fun j => j = X) w11 (w11.setCell ⟨X, u.toNat, none⟩ (.slice (some ⟨g, 0, none⟩) 2 k)) := (Only.refl (fun j => j = X) w11).setCell (p := ⟨X, u.toNat, none⟩) (.inl rfl) _; have o912 : Only (fun j => j = X) w9 (w11.setCell ⟨X, u.toNat, none⟩ (.slice (some ⟨g, 0, none⟩) 2 k)) := (o10.trans' o11 (fun _ _ e => e.elim)).trans o12; have hgX : g ≠ X := by omega
 have htg : tv'.ownBlock ≠ some g := fun e => by
  obtain ⟨-, h2⟩ := hrow
  rcases h2 with ⟨h2, -⟩ | ⟨g', cap, cur, h2, hg', hh, -⟩
  ·rw [h2] at e; cases e
  ·rw [h2] at e; have e : some g' = some g := e
   injection e with e
   have := (gE hh).1; omega
 refine ⟨_, b12, h.low, ?_, hap, fun x hx => ?_, fun c hc => ?_⟩
 ·rw [List.map_append, List.length_append]; exact own_only' hrow o912 (fun j hj e => by have e : j = X := e; rw [e] at hj; exact hap hj)
 ·rcases List.mem_append.1 hx with hx | hx
  ·obtain ⟨g0, k0, z0, e1, e2, e3, e4, e5, e6, e7, e8, e9, e10⟩ := h.yes x hx; have hne : x.toNat ≠ u.toNat := fun e => hn x hx (UInt8.toNat_inj.1 e)
   have hk9 := cell_keep (p := ⟨g0, 0, none⟩) o9 e3 e5; have hk91 := cell_keep (p := ⟨g0, 1, none⟩) o9 e3 e5; have hk12 := cell_keep (p := ⟨g0, 0, none⟩) o912 (Nat.lt_of_lt_of_le e3 o9.size) e4; have hk121 := cell_keep (p := ⟨g0, 1, none⟩) o912 (Nat.lt_of_lt_of_le e3 o9.size) e4
   exact ⟨g0, k0, z0, by show (if x.toNat = u.toNat then _ else _) = _; rw [if_neg hne]; exact e1, e2, Nat.lt_of_lt_of_le e3 (Nat.le_trans o9.size o912.size), e4, fun e => by
    rcases hown g0 e with e | e
    ·exact e5 e
    ·omega, e6, e7, e8, hk12.trans (hk9.trans e9), hk121.trans (hk91.trans e10)⟩
  ·have hx : x = u := by simpa using hx
   subst hx; exact ⟨g, k, z, if_pos rfl, by have := h.low; omega, Nat.lt_of_lt_of_le hg2 o12.size, hgX, htg, hk, hk2, he, (cell_keep (p := ⟨g, 0, none⟩) o12 hg2 hgX).trans c0, (cell_keep (p := ⟨g, 1, none⟩) o12 hg2 hgX).trans c1⟩
 ·have hcu : c ≠ u.toNat := fun e => hc u (by simp) e.symm
  show (if c = u.toNat then _ else _) = _
  rw [if_neg hcu]; exact h.no c (fun x hx => hc x (by simp [hx]))
theorem conv2 (w : World) (x y : UInt8) : ∃ g k w', (convert 9 117 (.string ⟨#[x, y]⟩)).run Tryz.prog w = .ok (.slice (some ⟨g, 0, none⟩) 2 k) w' ∧ w.heap.size ≤ g ∧ g < w'.heap.size ∧ 2 ≤ k ∧ k ≤ 9223372036854775807 ∧ w'.cell? ⟨g, 0, none⟩ = some (.int .u8 (x.toNat : Int)) ∧ w'.cell? ⟨g, 1, none⟩ = some (.int .u8 (y.toNat : Int)) ∧ Only (fun _ => False) w w' := by
 have hr := run_bytes_of_string (P := Tryz.prog) w 9 117 5 ⟨#[x, y]⟩ Tryz.underlying9 Tryz.underlying117 Tryz.underlying5; have hs : (⟨#[x, y]⟩ : ByteArray).size = 2 := rfl; rw [hs] at hr; have hge := grownCap_ge w 2 0 5; have hle := grownCap_le_maxLen w 2 0 5 (by unfold maxLen; omega); have hn := heap_new w.drew (.cells (bytesRow ⟨#[x, y]⟩ (grownCap w 2 0 5)) 5 ((bytesRow ⟨#[x, y]⟩ (grownCap w 2 0 5)).size, (bytesRow ⟨#[x, y]⟩ (grownCap w 2 0 5)).size + 1)); have hn' : (w.drew.alloc (.cells (bytesRow ⟨#[x, y]⟩ (grownCap w 2 0 5)) 5 ((bytesRow ⟨#[x, y]⟩ (grownCap w 2 0 5)).size, (bytesRow ⟨#[x, y]⟩ (grownCap w 2 0 5)).size + 1))).heap[w.heap.size]? = _ := hn; have e0 := bytesRow_at ⟨#[x, y]⟩ (grownCap w 2 0 5) 0 (show 0 < 2 by decide); have e1 := bytesRow_at ⟨#[x, y]⟩ (grownCap w 2 0 5) 1 (show 1 < 2 by decide); refine ⟨_, _, _, hr, Nat.le_refl _, (gE hn').1, hge, by unfold maxLen at hle; omega, ?_, ?_, ((Only.refl _ w).drew).alloc _⟩
 ·simp only [World.cell?, hn']; exact e0
 ·simp only [World.cell?, hn']; exact e1
def repN : Int → List UInt8 → Prop := fun i P => (i = 6 ∧ P = []) ∨ (i = 4 ∧ P = [9]) ∨ (i = 2 ∧ P = [9, 10]) ∨ (i = 0 ∧ P = [9, 10, 34]) ∨ (i = -2 ∧ P = [9, 10, 34, 92])
set_option maxRecDepth 100000 in
set_option maxHeartbeats 8000000 in
theorem build_any (b q p c8 : Nat) (v0 v1 v2 v3 : Value) (w : World) (hp : w.heap[b]? = some (.cells #[v0, v1, v2, v3, .slice (some ⟨q, p, none⟩) 8 c8] 142 (0, 0)))
  (ho : w.rangeAt q p (quoP.map fun s => .string ⟨s.toArray⟩)) :
  Calls Tryz.prog 104 #[.pointer (some ⟨b, 0, none⟩)] w fun e w' => ∃ X f tv, e = .returned (.iface 184 (.pointer (some ⟨X, 0, none⟩))) ∧ RepF w' w.heap.size X [9, 10, 34, 92] f tv ∧ Only (fun _ => False) w w' := by
 have h4 : w.cell? ⟨b, 4, none⟩ = some (.slice (some ⟨q, p, none⟩) 8 c8) := by simp [World.cell?, hp]
 have k0 : w.cell? ⟨q, p, none⟩ = some (.string ⟨#[92]⟩) := ho 0 _ rfl; have k1 : w.cell? ⟨q, p + 1, none⟩ = some (.string ⟨#[92, 92]⟩) := ho 1 _ rfl; have k2 : w.cell? ⟨q, p + 2, none⟩ = some (.string ⟨#[34]⟩) := ho 2 _ rfl; have k3 : w.cell? ⟨q, p + 3, none⟩ = some (.string ⟨#[92, 34]⟩) := ho 3 _ rfl; have k4 : w.cell? ⟨q, p + 4, none⟩ = some (.string ⟨#[10]⟩) := ho 4 _ rfl; have k5 : w.cell? ⟨q, p + 5, none⟩ = some (.string ⟨#[92, 110]⟩) := ho 5 _ rfl; have k6 : w.cell? ⟨q, p + 6, none⟩ = some (.string ⟨#[9]⟩) := ho 6 _ rfl; have k7 : w.cell? ⟨q, p + 7, none⟩ = some (.string ⟨#[92, 116]⟩) := ho 7 _ rfl; have hq : q < w.heap.size := cell_lt k0; obtain ⟨G, w1, hmk, hown, ow1⟩ : ∃ (G : Nat) (w1 : World), (Instr.makeSlice 32 (.int .i64 0) (.int .i64 4)).run Tryz.prog w = .ok (.slice (some ⟨G, 0, none⟩) 0 4) w1 ∧ w1.ownsRow w.heap.size 9 1 (.slice (some ⟨G, 0, none⟩) 0 4) 0 [] ∧ Only (fun _ => False) w w1 := by
  obtain ⟨i0, hi, hz0, hz1, hz2⟩ := info_parts infoStrQ; obtain ⟨w', h1, h2, h3⟩ := run_make_own (P := Tryz.prog) w w.heap.size 32 9 i0 (.string ByteArray.empty) 1 Tryz.underlying32 hi hz0 hz1 .i64 .i64 4 (by rw [hz2]; decide) (by decide) (Nat.le_refl _); exact ⟨_, w', h1, h2, (Only.refl (fun _ => False) w).grown h3 (fun k e => by cases e)⟩
 have HOWN := hid hown; have HO1 := hid ow1; have HRG := hid ho; have HQ := hid hq; clear hown ow1 hp ho hq
 go_enter Tryz.func104, Tryz.ntmps104
 go_wp2_with fail
 go_loopw [4, 5] (fun x y wr => wr = w ∧ ((x = .bool true ∧ y = .int .i64 0) ∨ (x = .bool false ∧ (y = .int .i64 2 ∨ y = .int .i64 4 ∨ y = .int .i64 6 ∨ y = .int .i64 8)))) (fun _ y _ => 10 - (intOf y).toNat)
 case atStart => exact ⟨rfl, .inl ⟨rfl, rfl⟩⟩
 case round =>
  obtain ⟨hw, hrel⟩ := hrel; have hw := hw.symm; subst hw
  rcases hrel with ⟨rfl, rfl⟩ | ⟨rfl, rfl | rfl | rfl | rfl⟩
  ·go_wp2_with fail
   go_roundw
   case rel => exact ⟨by first | rfl | trivial, .inr ⟨rfl, .inl rfl⟩⟩
   case measure => simp [intOf]
  ·go_wp2_with fail
   go_roundw
   case rel => exact ⟨by first | rfl | trivial, .inr ⟨rfl, .inr (.inl rfl)⟩⟩
   case measure => simp [intOf]
  ·go_wp2_with fail
   go_roundw
   case rel => exact ⟨by first | rfl | trivial, .inr ⟨rfl, .inr (.inr (.inl rfl))⟩⟩
   case measure => simp [intOf]
  ·go_wp2_with fail
   go_roundw
   case rel => exact ⟨by first | rfl | trivial, .inr ⟨rfl, .inr (.inr (.inr rfl))⟩⟩
   case measure => simp [intOf]
  ·go_upto_region 26 with (fail)
   obtain ⟨X, hX⟩ := eX (w1.heap.size); obtain ⟨w2, hw2⟩ := eX (w1.alloc (.cells Tryz.zeroCells183 183)); have hx2 : w2.heap[X]? = some (.cells (repL (fun _ => .slice none 0 0) (.slice none 0 0)).toArray 183 (0, 0)) := by rw [← hw2, ← hX, ← repL_zero]; exact heap_new _ _
   have o2 : Only (fun _ => False) w1 w2 := by rw [← hw2]; exact (Only.refl _ w1).alloc _
   have hev : (Tryz.zeroCells183.toList.set 256 (.slice (some ⟨G, 0, none⟩) 0 4)) = repL (fun _ => .slice none 0 0) (.slice (some ⟨G, 0, none⟩) 0 4) := by rw [repL_zero, List.toList_toArray, repL_setv]
   have hGX : G < X := by
    obtain ⟨-, h2⟩ := HOWN.out
    rcases h2 with ⟨h2, -⟩ | ⟨g', cap, cur, h2, -, hh, -⟩
    ·cases h2
    ·injection h2 with h2 _ _
     injection h2 with h2; injection h2 with h2 _ _; subst h2
     have := (gE hh).1; omega
   have hBX : w.heap.size ≤ X := by have := HO1.out.size; omega
   have HX := hid hX; have HW2 := hid hw2; have HX2 := hid hx2; have HO2 := hid (HO1.out.trans o2); have HEV := hid hev; have HBX := hid hBX; have HOWN2 := hid (own_only' HOWN.out o2 (fun _ _ h => h)); clear hX hw2 hx2 o2 hev hBX
   go_wp2_with ((rw [HX.out, HW2.out]; refine wpList_store_box (o := ⟨none, _, _, _, _, _⟩) rfl 183 (.tmp 11) (.tmp 95) (by rfl) X (repL (fun _ => .slice none 0 0) (.slice none 0 0)) (repL (fun _ => .slice none 0 0) (.slice (some ⟨G, 0, none⟩) 0 4)) (by rfl) (by rw [← HEV.out]; exact congrArg Value.agg (by rw [← Array.toList_setIfInBounds, Array.toArray_toList])) HX2.out (by rw [repL_len, repL_len]) (by rw [repL_len]; kernel_rfl) (by intro u hu; unfold repL at hu; rw [List.mem_append, List.mem_map, List.mem_singleton] at hu; rcases hu with ⟨_, _, rfl⟩ | rfl <;> rfl) ?_; intro w3 q1 q2))
   have hrep : RepF w3 w.heap.size X [] (fun _ => .slice none 0 0) (.slice (some ⟨G, 0, none⟩) 0 4) := ⟨q1, HBX.out, own_only' HOWN2.out q2 (fun j hj e => by have e : j = X := e; have hj : some G = some j := hj; injection hj with hj; omega), (fun e => by have e : some G = some X := e; injection e with e; omega), (fun u hu => by cases hu), fun _ _ => rfl⟩; have HI := hid (show ∃ f tv P, repN 6 P ∧ RepF w3 w.heap.size X P f tv ∧ Only (fun _ => False) w w3 from ⟨_, _, [], .inl ⟨rfl, rfl⟩, hrep, HO2.out.trans' q2 (fun j hj e => by have e : j = X := e; have := HBX.out; omega)⟩); clear hrep q1 q2 hmk HX HW2 HX2 HO2 HEV HOWN HOWN2 HO1 h4 k0 k1 k2 k3 k4 k5 k6 k7 hGX
   go_wp2_with fail
   go_loopw [12] (fun y wr => ∃ i : Int, y = .int .i64 i ∧ Hid (∃ f tv P, repN i P ∧ RepF wr w.heap.size X P f tv ∧ Only (fun _ => False) w wr)) (fun y _ => (intOf y + 2).toNat)
   case atStart => exact ⟨6, rfl, HI⟩
   case round =>
    obtain ⟨i, rfl, hrel⟩ := hrel; obtain ⟨f, tv, P, hP, hrep, hon⟩ := hrel.out; clear HI hrel; have HR := hid hrep; have HO := hid hon; have kk : ∀ j v, w.cell? ⟨q, p + j, none⟩ = some v → wr.cell? ⟨q, p + j, none⟩ = some v := fun j v h => (cell_keep (p := ⟨q, p + j, none⟩) hon HQ.out (fun h => h)).trans h
    rcases hP with ⟨rfl, rfl⟩ | ⟨rfl, rfl⟩ | ⟨rfl, rfl⟩ | ⟨rfl, rfl⟩ | ⟨rfl, rfl⟩
    ·have ka := kk 6 _ (HRG.out 6 _ rfl); have kb := kk 7 _ (HRG.out 7 _ rfl); have cx : wr.cell? ⟨X, 9, none⟩ = some (.slice none 0 0) := by rw [hrep.get (by decide)]; exact congrArg some (hrep.no 9 (by decide))
     obtain ⟨at_, ct, rfl, ht1, ht2, ht3⟩ := own_form hrep.own; have eqn := eql_nilQ; have cv : wr.cell? ⟨X, 256, none⟩ = some (.slice at_ 0 ct) := hrep.getv; have fz : ∀ j, wr.frozen? ⟨X, j, none⟩ = false := fun j => by simp [World.frozen?, hrep.box]
     have ht2' : ct ≤ 9223372036854775807 := by unfold maxLen at ht2; omega
     obtain ⟨gb, hgb⟩ := eX (wr.heap.size); obtain ⟨wA, hwA⟩ := eX (wr.alloc (.cells #[.int .u8 9] 5)); have hbx : wA.heap[gb]? = some (.cells #[.int .u8 9] 5 (0, 0)) := by rw [← hwA, ← hgb]; exact heap_new wr _
     have cA : (convert 117 9 (.slice (some ⟨gb, 0, none⟩) 1 1)).run Tryz.prog wA = .ok (.string ⟨#[9]⟩) wA := by
      refine run_convert_bytes_back _ _ _ 5 _ 1 [9] (by kernel_rfl) (by kernel_rfl) (by kernel_rfl) (fun j hj => ?_)
      rw [addr_add]
      match j, hj with
      | 0, _ => simp [World.cell?, hbx]
     obtain ⟨wB, hwB⟩ := eX (wA.alloc (.cells #[.string ⟨#[9]⟩] 9)); have oB : Only (fun _ => False) wr wB := by rw [← hwB, ← hwA]; exact ((Only.refl _ wr).alloc _).alloc _
     have hgc : wA.heap.size = gb + 1 := by rw [← hwA, World.size_alloc, hgb]
     have hcx : wB.heap[gb + 1]? = some (.cells #[.string ⟨#[9]⟩] 9 (0, 0)) := by rw [← hwB, ← hgc]; exact heap_new wA _
     have hrB := own_only' hrep.own oB (fun _ _ h => h); have hys : ∀ j u, ([.string ⟨#[9]⟩] : List Value)[j]? = some u → wB.cell? ((⟨gb + 1, 0, none⟩ : Addr).add j) = some u := fun j u hu => by
      match j, hu with
      | 0, hu => rw [addr_add]; simp [World.cell?, hcx]; simpa using hu
     have HWA := hid hwA; have HGB := hid hgb; have HWB := hid hwB; have HOB := hid oB; have HRB := hid hrB; have HYS := hid hys; have HON := hid hon; rw [← hgb, ← hwA] at cA; have hBs : w.heap.size ≤ wB.heap.size := Nat.le_trans hon.size oB.size; have HBS := hid hBs; clear hwA hgb hwB hgc oB hrB hys hbx hcx hon hrep kk hBs ht2 ht3
     go_upto_region 31 with (fail)
     rw [show ((⟨#[9]⟩ : ByteArray)[0]'(by decide)).toNat = 9 from rfl]
     go_upto_region 34 with ((rw [HGB.out, HWA.out, HWB.out]; refine wpList_append_own2 (o := ⟨some 124, _, _, _, _, _⟩) rfl (.tmp 119) (.tmp 123) 32 9 (by rfl) Tryz.underlying32 infoStrQ rfl (by decide) w.heap.size (.slice at_ 0 ct) 0 1 1 (([] : List UInt8).map fun u => .string ⟨#[u]⟩) [.string ⟨#[9]⟩] ⟨gb + 1, 0, none⟩ (by rfl) (by rfl) HRB.out (by rfl) HYS.out (by intro u hu; simp at hu; subst hu; rfl) (by decide) (by decide) HBS.out ?_; intro v' w9 q1 q2 q3; obtain ⟨aN, cN, eN, gL1, gL2, -⟩ := own_form q1; subst eN; clear cx cv fz; obtain ⟨cx, -, fz⟩ := repB (((HOB.out.mono (T := fun j => (Value.slice at_ 0 ct).ownBlock = some j) (fun _ _ e => e.elim)).trans' q2 (fun _ _ e => e)).block X (gE HR.out.box).1 HR.out.apart |>.trans HR.out.box)))
     have hX := (gE HR.out.box).1; have o9 : Only (fun j => (Value.slice at_ 0 ct).ownBlock = some j) wr w9 := (HOB.out.mono (T := fun j => (Value.slice at_ 0 ct).ownBlock = some j) (fun _ _ e => e.elim)).trans' q2 (fun _ _ e => e); have b9 := (o9.block X hX HR.out.apart).trans HR.out.box; have b10 := heap_set (o := 256) b9 (.slice aN (0 + 1) cN); rw [List.setIfInBounds_toArray, repL_setv] at b10; obtain ⟨w10, hw10⟩ := eX (w9.setCell ⟨X, 256, none⟩ (.slice aN (0 + 1) cN)); rw [hw10] at b10; obtain ⟨g, k, w11, hcv, g1, g2, g3, g4, g5, g6, o11⟩ := conv2 w10 92 116; obtain ⟨cx, cy, fz⟩ := repB (kB o11 b10 (fun e => e)); have cy := cy 9 (by decide); rw [HR.out.no 9 (by decide)] at cy; have hown : ∀ j, (Value.slice aN (0 + 1) cN).ownBlock = some j → (Value.slice at_ 0 ct).ownBlock = some j ∨ wr.heap.size ≤ j := fun j e => (q3 j e).imp id (fun h => Nat.le_trans HOB.out.size h)
     obtain ⟨f', hstep⟩ := HR.out.step 9 116 (by decide) g k o9 q1 hown (by rw [hw10]; exact o11) (by rw [hw10]; exact g1) g2 g3 g4 (by rfl) g5 g6; have hlast : Only (fun _ => False) w (w11.setCell ⟨X, (9 : UInt8).toNat, none⟩ (.slice (some ⟨g, 0, none⟩) 2 k)) := by
      have hh1 : Only (fun j => (Value.slice at_ 0 ct).ownBlock = some j ∨ j = X) wr w10 := by rw [← hw10]; exact (o9.mono (T := fun j => (Value.slice at_ 0 ct).ownBlock = some j ∨ j = X) (fun _ _ e => .inl e)).setCell (p := ⟨X, 256, none⟩) (.inl (.inr rfl)) _
      have hh2 := (hh1.trans' o11 (fun _ _ e => e.elim)).setCell (p := ⟨X, (9 : UInt8).toNat, none⟩) (.inl (.inr rfl)) (.slice (some ⟨g, 0, none⟩) 2 k); refine HON.out.trans' hh2 (fun j hj e => ?_)
      rcases e with e | e
      ·obtain ⟨_, _, _, _, _, h3⟩ := own_form HR.out.own; have := (h3 j e).1; omega
      ·have := HBX.out; omega
     have HNEW := hid (show ∃ f tv P, repN 4 P ∧ RepF (w11.setCell ⟨X, (9 : UInt8).toNat, none⟩ (.slice (some ⟨g, 0, none⟩) 2 k)) w.heap.size X P f tv ∧ Only (fun _ => False) w (w11.setCell ⟨X, (9 : UInt8).toNat, none⟩ (.slice (some ⟨g, 0, none⟩) 2 k)) from ⟨f', _, _, .inr (.inl ⟨rfl, rfl⟩), hstep, hlast⟩); have HW10 := hid hw10; clear hw10 b9 b10 o9 q1 q2 q3 hown hstep hlast o11 g5 g6 hX gL1 gL2 cA HWA HGB HWB HOB HRB HYS
     go_upto_region 34 with (fail)
     rw [HW10.out]
     go_wp2_with fail
     go_roundw
     case rel => exact ⟨_, rfl, HNEW⟩
     case measure => simp [intOf]
    ·have ka := kk 4 _ (HRG.out 4 _ rfl); have kb := kk 5 _ (HRG.out 5 _ rfl); have cx : wr.cell? ⟨X, 10, none⟩ = some (.slice none 0 0) := by rw [hrep.get (by decide)]; exact congrArg some (hrep.no 10 (by decide))
     obtain ⟨at_, ct, rfl, ht1, ht2, ht3⟩ := own_form hrep.own; have eqn := eql_nilQ; have cv : wr.cell? ⟨X, 256, none⟩ = some (.slice at_ 1 ct) := hrep.getv; have fz : ∀ j, wr.frozen? ⟨X, j, none⟩ = false := fun j => by simp [World.frozen?, hrep.box]
     have ht2' : ct ≤ 9223372036854775807 := by unfold maxLen at ht2; omega
     obtain ⟨gb, hgb⟩ := eX (wr.heap.size); obtain ⟨wA, hwA⟩ := eX (wr.alloc (.cells #[.int .u8 10] 5)); have hbx : wA.heap[gb]? = some (.cells #[.int .u8 10] 5 (0, 0)) := by rw [← hwA, ← hgb]; exact heap_new wr _
     have cA : (convert 117 9 (.slice (some ⟨gb, 0, none⟩) 1 1)).run Tryz.prog wA = .ok (.string ⟨#[10]⟩) wA := by
      refine run_convert_bytes_back _ _ _ 5 _ 1 [10] (by kernel_rfl) (by kernel_rfl) (by kernel_rfl) (fun j hj => ?_)
      rw [addr_add]
      match j, hj with
      | 0, _ => simp [World.cell?, hbx]
     obtain ⟨wB, hwB⟩ := eX (wA.alloc (.cells #[.string ⟨#[10]⟩] 9)); have oB : Only (fun _ => False) wr wB := by rw [← hwB, ← hwA]; exact ((Only.refl _ wr).alloc _).alloc _
     have hgc : wA.heap.size = gb + 1 := by rw [← hwA, World.size_alloc, hgb]
     have hcx : wB.heap[gb + 1]? = some (.cells #[.string ⟨#[10]⟩] 9 (0, 0)) := by rw [← hwB, ← hgc]; exact heap_new wA _
     have hrB := own_only' hrep.own oB (fun _ _ h => h); have hys : ∀ j u, ([.string ⟨#[10]⟩] : List Value)[j]? = some u → wB.cell? ((⟨gb + 1, 0, none⟩ : Addr).add j) = some u := fun j u hu => by
      match j, hu with
      | 0, hu => rw [addr_add]; simp [World.cell?, hcx]; simpa using hu
     have HWA := hid hwA; have HGB := hid hgb; have HWB := hid hwB; have HOB := hid oB; have HRB := hid hrB; have HYS := hid hys; have HON := hid hon; rw [← hgb, ← hwA] at cA; have hBs : w.heap.size ≤ wB.heap.size := Nat.le_trans hon.size oB.size; have HBS := hid hBs; clear hwA hgb hwB hgc oB hrB hys hbx hcx hon hrep kk hBs ht2 ht3
     go_upto_region 31 with (fail)
     rw [show ((⟨#[10]⟩ : ByteArray)[0]'(by decide)).toNat = 10 from rfl]
     go_upto_region 34 with ((rw [HGB.out, HWA.out, HWB.out]; refine wpList_append_own2 (o := ⟨some 124, _, _, _, _, _⟩) rfl (.tmp 119) (.tmp 123) 32 9 (by rfl) Tryz.underlying32 infoStrQ rfl (by decide) w.heap.size (.slice at_ 1 ct) 1 1 1 (([9] : List UInt8).map fun u => .string ⟨#[u]⟩) [.string ⟨#[10]⟩] ⟨gb + 1, 0, none⟩ (by rfl) (by rfl) HRB.out (by rfl) HYS.out (by intro u hu; simp at hu; subst hu; rfl) (by decide) (by decide) HBS.out ?_; intro v' w9 q1 q2 q3; obtain ⟨aN, cN, eN, gL1, gL2, -⟩ := own_form q1; subst eN; clear cx cv fz; obtain ⟨cx, -, fz⟩ := repB (((HOB.out.mono (T := fun j => (Value.slice at_ 1 ct).ownBlock = some j) (fun _ _ e => e.elim)).trans' q2 (fun _ _ e => e)).block X (gE HR.out.box).1 HR.out.apart |>.trans HR.out.box)))
     have hX := (gE HR.out.box).1; have o9 : Only (fun j => (Value.slice at_ 1 ct).ownBlock = some j) wr w9 := (HOB.out.mono (T := fun j => (Value.slice at_ 1 ct).ownBlock = some j) (fun _ _ e => e.elim)).trans' q2 (fun _ _ e => e); have b9 := (o9.block X hX HR.out.apart).trans HR.out.box; have b10 := heap_set (o := 256) b9 (.slice aN (1 + 1) cN); rw [List.setIfInBounds_toArray, repL_setv] at b10; obtain ⟨w10, hw10⟩ := eX (w9.setCell ⟨X, 256, none⟩ (.slice aN (1 + 1) cN)); rw [hw10] at b10; obtain ⟨g, k, w11, hcv, g1, g2, g3, g4, g5, g6, o11⟩ := conv2 w10 92 110; obtain ⟨cx, cy, fz⟩ := repB (kB o11 b10 (fun e => e)); have cy := cy 10 (by decide); rw [HR.out.no 10 (by decide)] at cy; have hown : ∀ j, (Value.slice aN (1 + 1) cN).ownBlock = some j → (Value.slice at_ 1 ct).ownBlock = some j ∨ wr.heap.size ≤ j := fun j e => (q3 j e).imp id (fun h => Nat.le_trans HOB.out.size h)
     obtain ⟨f', hstep⟩ := HR.out.step 10 110 (by decide) g k o9 q1 hown (by rw [hw10]; exact o11) (by rw [hw10]; exact g1) g2 g3 g4 (by rfl) g5 g6; have hlast : Only (fun _ => False) w (w11.setCell ⟨X, (10 : UInt8).toNat, none⟩ (.slice (some ⟨g, 0, none⟩) 2 k)) := by
      have hh1 : Only (fun j => (Value.slice at_ 1 ct).ownBlock = some j ∨ j = X) wr w10 := by rw [← hw10]; exact (o9.mono (T := fun j => (Value.slice at_ 1 ct).ownBlock = some j ∨ j = X) (fun _ _ e => .inl e)).setCell (p := ⟨X, 256, none⟩) (.inl (.inr rfl)) _
      have hh2 := (hh1.trans' o11 (fun _ _ e => e.elim)).setCell (p := ⟨X, (10 : UInt8).toNat, none⟩) (.inl (.inr rfl)) (.slice (some ⟨g, 0, none⟩) 2 k); refine HON.out.trans' hh2 (fun j hj e => ?_)
      rcases e with e | e
      ·obtain ⟨_, _, _, _, _, h3⟩ := own_form HR.out.own; have := (h3 j e).1; omega
      ·have := HBX.out; omega
     have HNEW := hid (show ∃ f tv P, repN 2 P ∧ RepF (w11.setCell ⟨X, (10 : UInt8).toNat, none⟩ (.slice (some ⟨g, 0, none⟩) 2 k)) w.heap.size X P f tv ∧ Only (fun _ => False) w (w11.setCell ⟨X, (10 : UInt8).toNat, none⟩ (.slice (some ⟨g, 0, none⟩) 2 k)) from ⟨f', _, _, .inr (.inr (.inl ⟨rfl, rfl⟩)), hstep, hlast⟩); have HW10 := hid hw10; clear hw10 b9 b10 o9 q1 q2 q3 hown hstep hlast o11 g5 g6 hX gL1 gL2 cA HWA HGB HWB HOB HRB HYS
     go_upto_region 34 with (fail)
     rw [HW10.out]
     go_wp2_with fail
     go_roundw
     case rel => exact ⟨_, rfl, HNEW⟩
     case measure => simp [intOf]
    ·have ka := kk 2 _ (HRG.out 2 _ rfl); have kb := kk 3 _ (HRG.out 3 _ rfl); have cx : wr.cell? ⟨X, 34, none⟩ = some (.slice none 0 0) := by rw [hrep.get (by decide)]; exact congrArg some (hrep.no 34 (by decide))
     obtain ⟨at_, ct, rfl, ht1, ht2, ht3⟩ := own_form hrep.own; have eqn := eql_nilQ; have cv : wr.cell? ⟨X, 256, none⟩ = some (.slice at_ 2 ct) := hrep.getv; have fz : ∀ j, wr.frozen? ⟨X, j, none⟩ = false := fun j => by simp [World.frozen?, hrep.box]
     have ht2' : ct ≤ 9223372036854775807 := by unfold maxLen at ht2; omega
     obtain ⟨gb, hgb⟩ := eX (wr.heap.size); obtain ⟨wA, hwA⟩ := eX (wr.alloc (.cells #[.int .u8 34] 5)); have hbx : wA.heap[gb]? = some (.cells #[.int .u8 34] 5 (0, 0)) := by rw [← hwA, ← hgb]; exact heap_new wr _
     have cA : (convert 117 9 (.slice (some ⟨gb, 0, none⟩) 1 1)).run Tryz.prog wA = .ok (.string ⟨#[34]⟩) wA := by
      refine run_convert_bytes_back _ _ _ 5 _ 1 [34] (by kernel_rfl) (by kernel_rfl) (by kernel_rfl) (fun j hj => ?_)
      rw [addr_add]
      match j, hj with
      | 0, _ => simp [World.cell?, hbx]
     obtain ⟨wB, hwB⟩ := eX (wA.alloc (.cells #[.string ⟨#[34]⟩] 9)); have oB : Only (fun _ => False) wr wB := by rw [← hwB, ← hwA]; exact ((Only.refl _ wr).alloc _).alloc _
     have hgc : wA.heap.size = gb + 1 := by rw [← hwA, World.size_alloc, hgb]
     have hcx : wB.heap[gb + 1]? = some (.cells #[.string ⟨#[34]⟩] 9 (0, 0)) := by rw [← hwB, ← hgc]; exact heap_new wA _
     have hrB := own_only' hrep.own oB (fun _ _ h => h); have hys : ∀ j u, ([.string ⟨#[34]⟩] : List Value)[j]? = some u → wB.cell? ((⟨gb + 1, 0, none⟩ : Addr).add j) = some u := fun j u hu => by
      match j, hu with
      | 0, hu => rw [addr_add]; simp [World.cell?, hcx]; simpa using hu
     have HWA := hid hwA; have HGB := hid hgb; have HWB := hid hwB; have HOB := hid oB; have HRB := hid hrB; have HYS := hid hys; have HON := hid hon; rw [← hgb, ← hwA] at cA; have hBs : w.heap.size ≤ wB.heap.size := Nat.le_trans hon.size oB.size; have HBS := hid hBs; clear hwA hgb hwB hgc oB hrB hys hbx hcx hon hrep kk hBs ht2 ht3
     go_upto_region 31 with (fail)
     rw [show ((⟨#[34]⟩ : ByteArray)[0]'(by decide)).toNat = 34 from rfl]
     go_upto_region 34 with ((rw [HGB.out, HWA.out, HWB.out]; refine wpList_append_own2 (o := ⟨some 124, _, _, _, _, _⟩) rfl (.tmp 119) (.tmp 123) 32 9 (by rfl) Tryz.underlying32 infoStrQ rfl (by decide) w.heap.size (.slice at_ 2 ct) 2 1 1 (([9, 10] : List UInt8).map fun u => .string ⟨#[u]⟩) [.string ⟨#[34]⟩] ⟨gb + 1, 0, none⟩ (by rfl) (by rfl) HRB.out (by rfl) HYS.out (by intro u hu; simp at hu; subst hu; rfl) (by decide) (by decide) HBS.out ?_; intro v' w9 q1 q2 q3; obtain ⟨aN, cN, eN, gL1, gL2, -⟩ := own_form q1; subst eN; clear cx cv fz; obtain ⟨cx, -, fz⟩ := repB (((HOB.out.mono (T := fun j => (Value.slice at_ 2 ct).ownBlock = some j) (fun _ _ e => e.elim)).trans' q2 (fun _ _ e => e)).block X (gE HR.out.box).1 HR.out.apart |>.trans HR.out.box)))
     have hX := (gE HR.out.box).1; have o9 : Only (fun j => (Value.slice at_ 2 ct).ownBlock = some j) wr w9 := (HOB.out.mono (T := fun j => (Value.slice at_ 2 ct).ownBlock = some j) (fun _ _ e => e.elim)).trans' q2 (fun _ _ e => e); have b9 := (o9.block X hX HR.out.apart).trans HR.out.box; have b10 := heap_set (o := 256) b9 (.slice aN (2 + 1) cN); rw [List.setIfInBounds_toArray, repL_setv] at b10; obtain ⟨w10, hw10⟩ := eX (w9.setCell ⟨X, 256, none⟩ (.slice aN (2 + 1) cN)); rw [hw10] at b10; obtain ⟨g, k, w11, hcv, g1, g2, g3, g4, g5, g6, o11⟩ := conv2 w10 92 34; obtain ⟨cx, cy, fz⟩ := repB (kB o11 b10 (fun e => e)); have cy := cy 34 (by decide); rw [HR.out.no 34 (by decide)] at cy; have hown : ∀ j, (Value.slice aN (2 + 1) cN).ownBlock = some j → (Value.slice at_ 2 ct).ownBlock = some j ∨ wr.heap.size ≤ j := fun j e => (q3 j e).imp id (fun h => Nat.le_trans HOB.out.size h)
     obtain ⟨f', hstep⟩ := HR.out.step 34 34 (by decide) g k o9 q1 hown (by rw [hw10]; exact o11) (by rw [hw10]; exact g1) g2 g3 g4 (by rfl) g5 g6; have hlast : Only (fun _ => False) w (w11.setCell ⟨X, (34 : UInt8).toNat, none⟩ (.slice (some ⟨g, 0, none⟩) 2 k)) := by
      have hh1 : Only (fun j => (Value.slice at_ 2 ct).ownBlock = some j ∨ j = X) wr w10 := by rw [← hw10]; exact (o9.mono (T := fun j => (Value.slice at_ 2 ct).ownBlock = some j ∨ j = X) (fun _ _ e => .inl e)).setCell (p := ⟨X, 256, none⟩) (.inl (.inr rfl)) _
      have hh2 := (hh1.trans' o11 (fun _ _ e => e.elim)).setCell (p := ⟨X, (34 : UInt8).toNat, none⟩) (.inl (.inr rfl)) (.slice (some ⟨g, 0, none⟩) 2 k); refine HON.out.trans' hh2 (fun j hj e => ?_)
      rcases e with e | e
      ·obtain ⟨_, _, _, _, _, h3⟩ := own_form HR.out.own; have := (h3 j e).1; omega
      ·have := HBX.out; omega
     have HNEW := hid (show ∃ f tv P, repN 0 P ∧ RepF (w11.setCell ⟨X, (34 : UInt8).toNat, none⟩ (.slice (some ⟨g, 0, none⟩) 2 k)) w.heap.size X P f tv ∧ Only (fun _ => False) w (w11.setCell ⟨X, (34 : UInt8).toNat, none⟩ (.slice (some ⟨g, 0, none⟩) 2 k)) from ⟨f', _, _, .inr (.inr (.inr (.inl ⟨rfl, rfl⟩))), hstep, hlast⟩); have HW10 := hid hw10; clear hw10 b9 b10 o9 q1 q2 q3 hown hstep hlast o11 g5 g6 hX gL1 gL2 cA HWA HGB HWB HOB HRB HYS
     go_upto_region 34 with (fail)
     rw [HW10.out]
     go_wp2_with fail
     go_roundw
     case rel => exact ⟨_, rfl, HNEW⟩
     case measure => simp [intOf]
    ·have ka := kk 0 _ (HRG.out 0 _ rfl); have kb := kk 1 _ (HRG.out 1 _ rfl); rw [Nat.add_zero] at ka; have cx : wr.cell? ⟨X, 92, none⟩ = some (.slice none 0 0) := by rw [hrep.get (by decide)]; exact congrArg some (hrep.no 92 (by decide))
     obtain ⟨at_, ct, rfl, ht1, ht2, ht3⟩ := own_form hrep.own; have eqn := eql_nilQ; have cv : wr.cell? ⟨X, 256, none⟩ = some (.slice at_ 3 ct) := hrep.getv; have fz : ∀ j, wr.frozen? ⟨X, j, none⟩ = false := fun j => by simp [World.frozen?, hrep.box]
     have ht2' : ct ≤ 9223372036854775807 := by unfold maxLen at ht2; omega
     obtain ⟨gb, hgb⟩ := eX (wr.heap.size); obtain ⟨wA, hwA⟩ := eX (wr.alloc (.cells #[.int .u8 92] 5)); have hbx : wA.heap[gb]? = some (.cells #[.int .u8 92] 5 (0, 0)) := by rw [← hwA, ← hgb]; exact heap_new wr _
     have cA : (convert 117 9 (.slice (some ⟨gb, 0, none⟩) 1 1)).run Tryz.prog wA = .ok (.string ⟨#[92]⟩) wA := by
      refine run_convert_bytes_back _ _ _ 5 _ 1 [92] (by kernel_rfl) (by kernel_rfl) (by kernel_rfl) (fun j hj => ?_)
      rw [addr_add]
      match j, hj with
      | 0, _ => simp [World.cell?, hbx]
     obtain ⟨wB, hwB⟩ := eX (wA.alloc (.cells #[.string ⟨#[92]⟩] 9)); have oB : Only (fun _ => False) wr wB := by rw [← hwB, ← hwA]; exact ((Only.refl _ wr).alloc _).alloc _
     have hgc : wA.heap.size = gb + 1 := by rw [← hwA, World.size_alloc, hgb]
     have hcx : wB.heap[gb + 1]? = some (.cells #[.string ⟨#[92]⟩] 9 (0, 0)) := by rw [← hwB, ← hgc]; exact heap_new wA _
     have hrB := own_only' hrep.own oB (fun _ _ h => h); have hys : ∀ j u, ([.string ⟨#[92]⟩] : List Value)[j]? = some u → wB.cell? ((⟨gb + 1, 0, none⟩ : Addr).add j) = some u := fun j u hu => by
      match j, hu with
      | 0, hu => rw [addr_add]; simp [World.cell?, hcx]; simpa using hu
     have HWA := hid hwA; have HGB := hid hgb; have HWB := hid hwB; have HOB := hid oB; have HRB := hid hrB; have HYS := hid hys; have HON := hid hon; rw [← hgb, ← hwA] at cA; have hBs : w.heap.size ≤ wB.heap.size := Nat.le_trans hon.size oB.size; have HBS := hid hBs; clear hwA hgb hwB hgc oB hrB hys hbx hcx hon hrep kk hBs ht2 ht3
     go_upto_region 31 with (fail)
     rw [show ((⟨#[92]⟩ : ByteArray)[0]'(by decide)).toNat = 92 from rfl]
     go_upto_region 34 with ((rw [HGB.out, HWA.out, HWB.out]; refine wpList_append_own2 (o := ⟨some 124, _, _, _, _, _⟩) rfl (.tmp 119) (.tmp 123) 32 9 (by rfl) Tryz.underlying32 infoStrQ rfl (by decide) w.heap.size (.slice at_ 3 ct) 3 1 1 (([9, 10, 34] : List UInt8).map fun u => .string ⟨#[u]⟩) [.string ⟨#[92]⟩] ⟨gb + 1, 0, none⟩ (by rfl) (by rfl) HRB.out (by rfl) HYS.out (by intro u hu; simp at hu; subst hu; rfl) (by decide) (by decide) HBS.out ?_; intro v' w9 q1 q2 q3; obtain ⟨aN, cN, eN, gL1, gL2, -⟩ := own_form q1; subst eN; clear cx cv fz; obtain ⟨cx, -, fz⟩ := repB (((HOB.out.mono (T := fun j => (Value.slice at_ 3 ct).ownBlock = some j) (fun _ _ e => e.elim)).trans' q2 (fun _ _ e => e)).block X (gE HR.out.box).1 HR.out.apart |>.trans HR.out.box)))
     have hX := (gE HR.out.box).1; have o9 : Only (fun j => (Value.slice at_ 3 ct).ownBlock = some j) wr w9 := (HOB.out.mono (T := fun j => (Value.slice at_ 3 ct).ownBlock = some j) (fun _ _ e => e.elim)).trans' q2 (fun _ _ e => e); have b9 := (o9.block X hX HR.out.apart).trans HR.out.box; have b10 := heap_set (o := 256) b9 (.slice aN (3 + 1) cN); rw [List.setIfInBounds_toArray, repL_setv] at b10; obtain ⟨w10, hw10⟩ := eX (w9.setCell ⟨X, 256, none⟩ (.slice aN (3 + 1) cN)); rw [hw10] at b10; obtain ⟨g, k, w11, hcv, g1, g2, g3, g4, g5, g6, o11⟩ := conv2 w10 92 92; obtain ⟨cx, cy, fz⟩ := repB (kB o11 b10 (fun e => e)); have cy := cy 92 (by decide); rw [HR.out.no 92 (by decide)] at cy; have hown : ∀ j, (Value.slice aN (3 + 1) cN).ownBlock = some j → (Value.slice at_ 3 ct).ownBlock = some j ∨ wr.heap.size ≤ j := fun j e => (q3 j e).imp id (fun h => Nat.le_trans HOB.out.size h)
     obtain ⟨f', hstep⟩ := HR.out.step 92 92 (by decide) g k o9 q1 hown (by rw [hw10]; exact o11) (by rw [hw10]; exact g1) g2 g3 g4 (by rfl) g5 g6; have hlast : Only (fun _ => False) w (w11.setCell ⟨X, (92 : UInt8).toNat, none⟩ (.slice (some ⟨g, 0, none⟩) 2 k)) := by
      have hh1 : Only (fun j => (Value.slice at_ 3 ct).ownBlock = some j ∨ j = X) wr w10 := by rw [← hw10]; exact (o9.mono (T := fun j => (Value.slice at_ 3 ct).ownBlock = some j ∨ j = X) (fun _ _ e => .inl e)).setCell (p := ⟨X, 256, none⟩) (.inl (.inr rfl)) _
      have hh2 := (hh1.trans' o11 (fun _ _ e => e.elim)).setCell (p := ⟨X, (92 : UInt8).toNat, none⟩) (.inl (.inr rfl)) (.slice (some ⟨g, 0, none⟩) 2 k); refine HON.out.trans' hh2 (fun j hj e => ?_)
      rcases e with e | e
      ·obtain ⟨_, _, _, _, _, h3⟩ := own_form HR.out.own; have := (h3 j e).1; omega
      ·have := HBX.out; omega
     have HNEW := hid (show ∃ f tv P, repN (-2) P ∧ RepF (w11.setCell ⟨X, (92 : UInt8).toNat, none⟩ (.slice (some ⟨g, 0, none⟩) 2 k)) w.heap.size X P f tv ∧ Only (fun _ => False) w (w11.setCell ⟨X, (92 : UInt8).toNat, none⟩ (.slice (some ⟨g, 0, none⟩) 2 k)) from ⟨f', _, _, .inr (.inr (.inr (.inr ⟨rfl, rfl⟩))), hstep, hlast⟩); have HW10 := hid hw10; clear hw10 b9 b10 o9 q1 q2 q3 hown hstep hlast o11 g5 g6 hX gL1 gL2 cA HWA HGB HWB HOB HRB HYS
     go_upto_region 34 with (fail)
     rw [HW10.out]
     go_wp2_with fail
     go_roundw
     case rel => exact ⟨_, rfl, HNEW⟩
     case measure => simp [intOf]
    ·have HEND := hid (show ∃ X f tv, Ending.returned (.iface 184 (.pointer (some ⟨_, 0, none⟩))) = .returned (.iface 184 (.pointer (some ⟨X, 0, none⟩))) ∧ RepF wr w.heap.size X [9, 10, 34, 92] f tv ∧ Only (fun _ => False) w wr from ⟨X, f, tv, rfl, hrep, hon⟩); clear hrep hon HR HO kk
     go_wp2_with fail
     go_ret
     exact HEND.out
end Go.Proofs.YtnkpoddbbdmipaaGreatDoor
