/- Entities: the writer's Entity, the document's (ref03.Entity, SameEntity). -/
import Derived.Test.YtoojnpafcdaflaaSls
import Derived.Test.YtoojnpafcdaflaaWvb
import Derived.Test.YtoojnpafcdaflaaRva
import Derived.Deep.RegionHeld3
namespace Go.Proofs.Ytoojnpafcdaflaa
open Go Go.RowKit
set_option linter.unusedVariables false
set_option linter.unusedSimpArgs false
set_option maxRecDepth 100000

def objV (ks : List (List UInt8)) (vs : List VT) : VT := .mk 6 0 [] ks vs
def encE (ty id : List UInt8) (ks : List (List UInt8)) (vs : List VT) : List UInt8 := encT ty ++ (encT id ++ encV (objV ks vs))
theorem box4 {w : World} {g : Nat} {c0 c1 c2 c3 : Value} {T : TypeId} (h : w.heap[g]? = some (.cells #[c0, c1, c2, c3] T (0, 0))) :
    w.cell? ⟨g, 0, none⟩ = some c0 ∧ w.cell? ⟨g, 1, none⟩ = some c1 ∧ w.cell? ⟨g, 2, none⟩ = some c2 ∧ w.cell? ⟨g, 3, none⟩ = some c3 := by
  refine ⟨?_, ?_, ?_, ?_⟩ <;> simp [World.cell?, h]
theorem ebox (w : World) (e0 e1 e2 e3 : Value) : ∃ wb, wb = w.alloc (.cells #[e0, e1, e2, e3] 69) ∧ Only (fun _ => False) w wb ∧ w.heap.size < wb.heap.size ∧
    ∀ (S : Nat → Prop) w', Only S wb w' → ¬ S w.heap.size → w'.heap[w.heap.size]? = some (.cells #[e0, e1, e2, e3] 69 (0, 0)) := by
  refine ⟨_, rfl, (Only.refl _ w).alloc _, by simp, fun S w' ho hS => ?_⟩
  have h := heap_new w (.cells #[e0, e1, e2, e3] 69)
  rw [ho.block _ (Array.getElem?_eq_some_iff.1 h).1 hS]; exact h
set_option maxHeartbeats 4000000 in
theorem wEntity (ty id : List UInt8) (ks : List (List UInt8)) (vs : List VT) (ak av : Option Addr) (ck cv : Nat) (F G : Nat → Prop) (b : Nat) (w1 : World) (l : List UInt8) (w : World) (h : WS F b w1 l w)
    (hv : ValAt w G (objV ks vs) [.int .u8 6, .int .i64 0, .string ByteArray.empty, .slice ak ks.length ck, .slice av vs.length cv]) (hgood : GoodV (objV ks vs)) (hG : ∀ q, G q → q < w1.heap.size ∧ ¬ F q)
    (hty : ty.length ≤ 100000000) (hid : id.length ≤ 100000000) (ht : (encV (objV ks vs)).length ≤ 1000000) (hl : l.length ≤ 1000000000) :
    Calls Try.prog 47 #[.pointer (some ⟨b, 0, none⟩), .agg #[.string ⟨ty.toArray⟩, .string ⟨id.toArray⟩, .slice ak ks.length ck, .slice av vs.length cv]] w (WSP F b w1 (l ++ encE ty id ks vs)) := by
  obtain ⟨lk, hlk⟩ : ∃ lk, lk = ks.length := ⟨_, rfl⟩
  obtain ⟨lv, hlv⟩ : ∃ lv, lv = vs.length := ⟨_, rfl⟩
  rw [← hlk, ← hlv] at hv
  rw [← hlk, ← hlv]
  clear hlk hlv
  obtain ⟨wb, hwb, ob, hsz, hbx⟩ := ebox w (.string ⟨ty.toArray⟩) (.string ⟨id.toArray⟩) (.slice ak lk ck) (.slice av lv cv)
  have odr : Only (fun _ => False) w wb.drew := ob.drew
  obtain ⟨F1, hs1, hF1, hback⟩ := h.rebase odr
  have hkeep : ∀ l' w', WS F1 b wb.drew l' w' → w'.heap[w.heap.size]? = some (.cells #[.string ⟨ty.toArray⟩, .string ⟨id.toArray⟩, .slice ak lk ck, .slice av lv cv] 69 (0, 0)) := fun l' w' hw => hbx F1 w' (((Only.refl F1 wb).drew).trans hw.only) (fun hf => by have := (hF1 _ hf).1; omega)
  have hGF : ∀ q, G q → q < wb.drew.heap.size ∧ ¬ F1 q := fun q hq => ⟨Nat.lt_of_lt_of_le (hG q hq).1 (Nat.le_trans h.only.size ob.size), fun hf => (hF1 q hf).2.elim (hG q hq).2 (by have := (hG q hq).1; omega)⟩
  have hval : ∀ l' w', WS F1 b wb.drew l' w' → ValAt w' G (objV ks vs) [.int .u8 6, .int .i64 0, .string ByteArray.empty, .slice ak lk ck, .slice av lv cv] := fun l' w' hw => valAt_only hw.only (fun q hq hf => (hGF q hq).2 hf) _ _ (valAt_only odr (fun _ _ h => h) _ _ hv)
  have het : (encT ty).length ≤ 100000010 := by unfold encT; rw [List.length_append]; have := encU_len10 (n := ty.length) (by omega); omega
  have hei : (encT id).length ≤ 100000010 := by unfold encT; rw [List.length_append]; have := encU_len10 (n := id.length) (by omega); omega
  have g0 := box4 (hbx (fun _ => False) wb (Only.refl _ _) (fun h => h))
  have gd := box4 (hbx (fun _ => False) wb.drew ((Only.refl _ _).drew) (fun h => h))
  rw [hwb] at g0
  have HKEEP := Lib.hid hkeep; have HGF := Lib.hid hGF; have HVAL := Lib.hid hval; have HS1 := Lib.hid hs1; have HBACK := Lib.hid hback; have HWB := Lib.hid hwb; have HGOOD := Lib.hid hgood; have GD := Lib.hid gd
  clear hkeep hGF hval hs1 hback hwb hgood gd hbx ob odr hF1 h hG hv hsz
  have hz := zero_V
  go_enter Try.func47, Try.ntmps47
  go_wp2_with fail
  rw [← HWB.out] at g0 ⊢
  obtain ⟨c0, c1, c2, c3⟩ := g0
  go_region_held3 (fun w' => w'.cell? ⟨w.heap.size, 0, none⟩ = some (.string ⟨ty.toArray⟩) ∧ w'.cell? ⟨w.heap.size, 1, none⟩ = some (.string ⟨id.toArray⟩) ∧ w'.cell? ⟨w.heap.size, 2, none⟩ = some (.slice ak lk ck) ∧ w'.cell? ⟨w.heap.size, 3, none⟩ = some (.slice av lv cv)) (first | exact GD.out | exact ⟨c0, c1, c2, c3⟩ | exact box4 (HKEEP.out _ _ hU) | exact box4 (HKEEP.out _ _ hT) | exact box4 (HKEEP.out _ _ hV)) (first | (go_at_call 18; refine (wText_s id F1 b _ (l ++ encT ty) _ hU (by omega) (by rw [List.length_append]; omega)).mono ?_; rintro e w8 ⟨rfl, hT⟩) | (go_at_call 18; refine (wText_s ty F1 b _ l _ HS1.out (by omega) (by omega)).mono ?_; rintro e w7 ⟨rfl, hU⟩) | (go_at_call 37; refine (wValue _ (objV ks vs) (Nat.le_refl _) F1 G b _ (l ++ encT ty ++ encT id) _ _ hT (HVAL.out _ _ hT) HGOOD.out HGF.out (by omega) (by simp only [List.length_append]; omega)).mono ?_; rintro e w9 ⟨rfl, hV⟩))
  have hfin := HBACK.out _ _ hV
  simp only [List.append_assoc] at hfin
  have HFIN := Lib.hid hfin; clear hfin hV hU hT hz
  go_wp2
  go_ret
  exact ⟨rfl, HFIN.out⟩
theorem obj_zero {w : World} {G : Nat → Prop} {ks : List (List UInt8)} {vs : List VT} {a1 a2 a3 a4 a5 : Value} (h : ValAt w G (objV ks vs) [a1, a2, a3, a4, a5]) : ValAt w G (.mk 0 0 [] ks vs) [.int .u8 0, .int .i64 0, .string ByteArray.empty, a4, a5] := by
  unfold objV at h
  simp only [ValAt] at h ⊢
  obtain ⟨ak, ck, av, cv, e, h1, h2, h3, h4, h5, h6, h7⟩ := h
  simp only [List.cons.injEq, and_true] at e
  obtain ⟨rfl, rfl, rfl, rfl, rfl⟩ := e
  exact ⟨ak, ck, av, cv, rfl, by decide, h2, h3, h4, h5, h6, h7⟩
set_option maxHeartbeats 4000000 in
theorem rEntityR (ty id : List UInt8) (ks : List (List UInt8)) (vs : List VT) (ak av : Option Addr) (ck cv : Nat) (G : Nat → Prop) (w : World)
    (hv : ValAt w G (objV ks vs) [.int .u8 6, .int .i64 0, .string ByteArray.empty, .slice ak ks.length ck, .slice av vs.length cv]) (hgood : GoodV (objV ks vs))
    (hty : ty.length ≤ 100000000) (hid : id.length ≤ 100000000) (ht : (encV (objV ks vs)).length ≤ 1000000) :
    Calls Try.prog 48 #[.agg #[.string ⟨ty.toArray⟩, .string ⟨id.toArray⟩, .slice ak ks.length ck, .slice av vs.length cv]] w (Makes w (encE ty id ks vs)) := by
  obtain ⟨lk, hlk⟩ : ∃ lk, lk = ks.length := ⟨_, rfl⟩
  obtain ⟨lv, hlv⟩ : ∃ lv, lv = vs.length := ⟨_, rfl⟩
  rw [← hlk, ← hlv] at hv
  rw [← hlk, ← hlv]
  clear hlk hlv
  obtain ⟨wb, hwb, ob, hsz, hbx⟩ := ebox w (.string ⟨ty.toArray⟩) (.string ⟨id.toArray⟩) (.slice ak lk ck) (.slice av lv cv)
  have hB : ∀ w', Only (fun _ => False) wb w' → w'.heap[w.heap.size]? = some (.cells #[.string ⟨ty.toArray⟩, .string ⟨id.toArray⟩, .slice ak lk ck, .slice av lv cv] 69 (0, 0)) ∧ ValAt w' G (objV ks vs) [.int .u8 6, .int .i64 0, .string ByteArray.empty, .slice ak lk ck, .slice av lv cv] := fun w' ho => ⟨hbx _ w' ho (fun h => h), valAt_only (ob.trans ho) (fun _ _ h => h) _ _ hv⟩
  have het : (encT ty).length ≤ 100000010 := by unfold encT; rw [List.length_append]; have := encU_len10 (n := ty.length) (by omega); omega
  have hei : (encT id).length ≤ 100000010 := by unfold encT; rw [List.length_append]; have := encU_len10 (n := id.length) (by omega); omega
  have HB := Lib.hid hB; have OB := Lib.hid ob; have HWB := Lib.hid hwb; have HGOOD := Lib.hid hgood; clear hB hbx ob hwb hgood hsz hv
  have g0 := box4 (HB.out wb (Only.refl _ _)).1
  rw [HWB.out] at g0
  obtain ⟨c0, c1, c2, c3⟩ := g0
  have hz := zero_V
  go_enter Try.func48, Try.ntmps48
  go_wp2_with fail
  rw [← HWB.out]
  refine (rText ty wb (by omega)).mono ?_
  rintro e w2 ⟨v2, rfl, h2, o2⟩
  have H2 := Lib.hid h2; have O2 := Lib.hid o2; clear h2 o2 c0 c1 c2 c3
  obtain ⟨c0, c1, c2, c3⟩ := box4 (HB.out w2 O2.out).1
  go_wp2_with fail
  refine (rText id w2 (by omega)).mono ?_
  rintro e w3 ⟨v3, rfl, h3, o3⟩
  have H3 := Lib.hid h3; have O3 := Lib.hid o3; clear h3 o3 c0 c1 c2 c3
  go_wp2_with ((refine wpList_append8 (o := ⟨some 11, _, _, _, _, _⟩) rfl (.tmp 7) (.tmp 10) (by rfl) wb.heap.size _ _ (encT ty) (encT id) (by rfl) (by rfl) (H2.out.still O3.out) H3.out.bytes (by omega) (Nat.le_trans O2.out.size O3.out.size) ?_; intro L1 a4 c4 w4 hL1 h4 g4; have o4 := g4.out.step (O2.out.trans O3.out) (fun k hk => .inr ((H2.out.still O3.out).ge hk).1); obtain ⟨c0, c1, c2, c3⟩ := box4 (HB.out w4 o4).1; have O4 := Lib.hid o4; clear o4))
  refine (rValue _ (objV ks vs) (Nat.le_refl _) G w4 _ (HB.out w4 O4.out).2 HGOOD.out (by omega)).mono ?_
  rintro e w5 ⟨v5, rfl, h5, o5⟩
  have H5 := Lib.hid h5; have O5 := Lib.hid o5; clear h5 o5 c0 c1 c2 c3
  go_wp2_with ((refine wpList_append8 (o := ⟨some 19, _, _, _, _, _⟩) rfl (.tmp 12) (.tmp 18) (by rfl) wb.heap.size _ _ L1 (encV (objV ks vs)) (by rfl) (by rfl) (h4.out.still O5.out) H5.out.bytes (by rw [hL1.out, List.length_append]; omega) (Nat.le_trans O4.out.size O5.out.size) ?_; intro L2 a6 c6 w6 hL2 h6 g6))
  go_ret
  have e1 : L2 = encE ty id ks vs := by rw [hL2.out, hL1.out]; unfold encE; rw [List.append_assoc]
  rw [← e1]
  exact ⟨_, rfl, h6.out.mono OB.out.size, g6.out.step ((OB.out.trans O4.out).trans O5.out) (fun k hk => .inr (Nat.le_trans OB.out.size ((h4.out.still O5.out).ge hk).1))⟩
set_option maxHeartbeats 4000000 in
theorem sameEnt (ty id : List UInt8) (ks : List (List UInt8)) (vs : List VT) (ak av bk bv : Option Addr) (ck cv dk dv : Nat) (G G' : Nat → Prop) (w : World)
    (hv : ValAt w G (objV ks vs) [.int .u8 6, .int .i64 0, .string ByteArray.empty, .slice ak ks.length ck, .slice av vs.length cv])
    (hu : ValAt w G' (objV ks vs) [.int .u8 6, .int .i64 0, .string ByteArray.empty, .slice bk ks.length dk, .slice bv vs.length dv]) :
    Calls Try.prog 49 #[.agg #[.string ⟨ty.toArray⟩, .string ⟨id.toArray⟩, .slice ak ks.length ck, .slice av vs.length cv], .agg #[.string ⟨ty.toArray⟩, .string ⟨id.toArray⟩, .slice bk ks.length dk, .slice bv vs.length dv]] w fun e w' => e = .returned (.bool true) ∧ Only (fun _ => False) w w' := by
  obtain ⟨lk, hlk⟩ : ∃ lk, lk = ks.length := ⟨_, rfl⟩
  obtain ⟨lv, hlv⟩ : ∃ lv, lv = vs.length := ⟨_, rfl⟩
  rw [← hlk, ← hlv] at hv hu
  rw [← hlk, ← hlv]
  clear hlk hlv
  have ob := ((Only.refl (fun _ => False) w).alloc (.cells #[.string ⟨ty.toArray⟩, .string ⟨id.toArray⟩, .slice ak lk ck, .slice av lv cv] 69)).alloc (.cells #[.string ⟨ty.toArray⟩, .string ⟨id.toArray⟩, .slice bk lk dk, .slice bv lv dv] 69)
  have hst := rSame _ (.mk 0 0 [] ks vs) (.mk 0 0 [] ks vs) (Nat.le_refl _) G G' _ _ _ (valAt_only ob (fun _ _ h => h) _ _ (obj_zero hv)) (valAt_only ob (fun _ _ h => h) _ _ (obj_zero hu))
  rw [sameV_refl] at hst
  have HST := Lib.hid hst; have OB := Lib.hid ob; clear hst ob hv hu
  have hz := zero_V
  go_enter Try.func49, Try.ntmps49
  go_wp2_with fail
  refine HST.out.mono ?_
  rintro e w7 ⟨rfl, o7⟩
  have O7 := Lib.hid o7; clear o7
  go_wp2_with fail
  go_ret
  exact ⟨rfl, OB.out.trans O7.out⟩
end Go.Proofs.Ytoojnpafcdaflaa
