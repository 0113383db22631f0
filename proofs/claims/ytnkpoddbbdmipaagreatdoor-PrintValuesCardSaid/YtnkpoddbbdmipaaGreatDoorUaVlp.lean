/- . -/
import Derived.Test.YtnkpoddbbdmipaaGreatDoorUaQrp
import Derived.Test.YtnkpoddbbdmipaaGreatDoorUaPrx
import Derived.Test.YtnkpoddbbdmipaaGreatDoorUaPpv
namespace Go.Proofs.YtnkpoddbbdmipaaGreatDoor
open Go Go.RowKit
open Go.Lib (hid)
set_option linter.unusedVariables false
set_option linter.unusedSimpArgs false
def strV (s : List UInt8) : Value := .string ⟨s.toArray⟩
mutual
def ValAt (w : World) (G : Nat → Prop) : VT → List Value → Prop
 | .mk k n s ks vs, cs => ∃ ak ck av cv, cs = [.int .u8 k, .int .i64 n, .string ⟨s.toArray⟩, .slice ak ks.length ck, .slice av vs.length cv] ∧ k < 256 ∧ (-9223372036854775808 ≤ n ∧ n ≤ 9223372036854775807) ∧ s.length ≤ 9223372036854775807 ∧
   (ks.length ≤ ck ∧ ck ≤ 9223372036854775807) ∧ (vs.length ≤ cv ∧ cv ≤ 9223372036854775807) ∧
   (0 < ks.length → ∃ b off, ak = some ⟨b, off, none⟩ ∧ G b ∧ b < w.heap.size ∧ w.rangeAt b off (ks.map strV)) ∧
   (0 < vs.length → ∃ b off, av = some ⟨b, off, none⟩ ∧ G b ∧ b < w.heap.size ∧ ValsAt w G vs b off)
def ValsAt (w : World) (G : Nat → Prop) : List VT → Nat → Nat → Prop
 | [], _, _ => True
 | v :: vs, b, off => (∃ cs, cs.length = 5 ∧ w.rangeAt b off cs ∧ ValAt w G v cs) ∧ ValsAt w G vs b (off + 5)
end
theorem valsAt_get {w : World} {G : Nat → Prop} : ∀ {vs : List VT} {b off : Nat}, ValsAt w G vs b off → ∀ (i : Nat) (h : i < vs.length), ∃ cs, cs.length = 5 ∧ w.rangeAt b (off + i * 5) cs ∧ ValAt w G vs[i] cs
 | [], _, _, _, i, h => absurd h (by simp)
 | v :: vs, b, off, hv, 0, _ => by simpa using hv.1
 | v :: vs, b, off, hv, i + 1, h => by
  have := valsAt_get (vs := vs) hv.2 i (by simpa using h); rw [show off + (i + 1) * 5 = off + 5 + i * 5 from by omega]; exact this
theorem range_only {S : Nat → Prop} {w w' : World} {b off : Nat} {cs : List Value} (h : w.rangeAt b off cs) (hb : b < w.heap.size) (ho : Only S w w') (hS : ¬ S b) : w'.rangeAt b off cs := fun j v hv => by
 rw [cell_keep ho hb hS]; exact h j v hv
mutual
theorem valAt_only {S G : Nat → Prop} {w w' : World} (ho : Only S w w') (hS : ∀ k, G k → ¬ S k) : ∀ (t : VT) (cs : List Value), ValAt w G t cs → ValAt w' G t cs
 | .mk k n s ks vs, cs, h => by
  simp only [ValAt] at h ⊢; obtain ⟨ak, ck, av, cv, e, h1, h2, h3, h4, h5, h6, h7⟩ := h; refine ⟨ak, ck, av, cv, e, h1, h2, h3, h4, h5, fun hp => ?_, fun hp => ?_⟩
  ·obtain ⟨b, off, e, hg, hb, hr⟩ := h6 hp; exact ⟨b, off, e, hg, Nat.lt_of_lt_of_le hb ho.size, range_only hr hb ho (hS b hg)⟩
  ·obtain ⟨b, off, e, hg, hb, hr⟩ := h7 hp; exact ⟨b, off, e, hg, Nat.lt_of_lt_of_le hb ho.size, valsAt_only ho hS vs b off hb hg hr⟩
theorem valsAt_only {S G : Nat → Prop} {w w' : World} (ho : Only S w w') (hS : ∀ k, G k → ¬ S k) : ∀ (vs : List VT) (b off : Nat), b < w.heap.size → G b → ValsAt w G vs b off → ValsAt w' G vs b off
 | [], _, _, _, _, _ => trivial
 | v :: vs, b, off, hb, hg, h => by
  simp only [ValsAt] at h ⊢; obtain ⟨⟨cs, h1, h2, h3⟩, h4⟩ := h; exact ⟨⟨cs, h1, range_only h2 hb ho (hS b hg), valAt_only ho hS v cs h3⟩, valsAt_only ho hS vs b (off + 5) hb hg h4⟩
end
theorem box_cells {w : World} {g : Nat} {c0 c1 c2 c3 c4 : Value} (h : w.heap[g]? = some (.cells #[c0, c1, c2, c3, c4] 35 (0, 0))) :
  w.cell? ⟨g, 0, none⟩ = some c0 ∧ w.cell? ⟨g, 1, none⟩ = some c1 ∧ w.cell? ⟨g, 2, none⟩ = some c2 ∧ w.cell? ⟨g, 3, none⟩ = some c3 ∧ w.cell? ⟨g, 4, none⟩ = some c4 := by
 refine ⟨?_, ?_, ?_, ?_, ?_⟩ <;> simp [World.cell?, h]
theorem range5 {w : World} {b off : Nat} {c0 c1 c2 c3 c4 : Value} (h : w.rangeAt b off [c0, c1, c2, c3, c4]) :
  w.cell? ⟨b, off, none⟩ = some c0 ∧ w.cell? ⟨b, off + 1, none⟩ = some c1 ∧ w.cell? ⟨b, off + 2, none⟩ = some c2 ∧ w.cell? ⟨b, off + 3, none⟩ = some c3 ∧ w.cell? ⟨b, off + 4, none⟩ = some c4 :=
 ⟨h 0 _ rfl, h 1 _ rfl, h 2 _ rfl, h 3 _ rfl, h 4 _ rfl⟩
theorem valAt_form {w : World} {G : Nat → Prop} {t : VT} {cs : List Value} (h : ValAt w G t cs) : ∃ (k : Nat) (n : Int) (s : List UInt8) (ak : Option Addr) (lk ck : Nat) (av : Option Addr) (lv cv : Nat), cs = [.int .u8 k, .int .i64 n, .string ⟨s.toArray⟩, .slice ak lk ck, .slice av lv cv] := by
 obtain ⟨k, n, s, ks, vs⟩ := t; simp only [ValAt] at h; obtain ⟨ak, ck, av, cv, e, _⟩ := h; exact ⟨k, n, s, ak, _, ck, av, _, cv, e⟩
theorem names_cells {w : World} {G : Nat → Prop} {b : Nat} : ∀ (ks : List (List UInt8)) (off : Nat), w.rangeAt b off (ks.map strV) → RowsAt w G 1 (ks.map fun s => [strC s]) b off
 | [], _, _ => by simp [RowsAt]
 | s :: ks, off, h => by
  simp only [List.map_cons, RowsAt]; refine ⟨⟨[strV s], rfl, fun j u hu => ?_, ?_⟩, names_cells ks (off + 1) fun j u hu => ?_⟩
  ·match j, hu with
   | 0, hu => exact h 0 u (by simpa using hu)
   | j + 1, hu => simp at hu
  ·exact ⟨_, _, rfl, ⟨rfl, rfl⟩, rfl⟩
  ·have := h (j + 1) u (by simpa using hu); rw [show off + 1 + j = off + (j + 1) from by omega]; exact this
mutual
theorem valAt_cells {w : World} {G : Nat → Prop} : ∀ (t : VT) (cs : List Value), ValAt w G t cs → CellsAt w G (valC t) cs
 | .mk k n s ks vs, cs, h => by
  simp only [ValAt] at h; obtain ⟨ak, ck, av, cv, rfl, h1, h2, h3, h4, h5, h6, h7⟩ := h; simp only [valC, CellsAt]; refine ⟨_, _, rfl, ⟨rfl, rfl⟩, _, _, rfl, ⟨rfl, rfl⟩, _, _, rfl, ⟨rfl, rfl⟩, _, _, rfl, ?_, _, _, rfl, ?_, rfl⟩
  ·simp only [CellAt, List.length_map]; refine ⟨ak, ck, rfl, h4.1, h4.2, fun hp => ?_⟩
   obtain ⟨b, off, e, hg, hb, hr⟩ := h6 hp; exact ⟨b, off, e, hg, hb, names_cells ks off hr⟩
  ·have hl : (valCs vs).length = vs.length := by rw [valCs_map, List.length_map]
   simp only [CellAt, hl]; refine ⟨av, cv, rfl, h5.1, h5.2, fun hp => ?_⟩
   obtain ⟨b, off, e, hg, hb, hr⟩ := h7 hp; exact ⟨b, off, e, hg, hb, valsAt_cells vs b off hr⟩
theorem valsAt_cells {w : World} {G : Nat → Prop} : ∀ (vs : List VT) (b off : Nat), ValsAt w G vs b off → RowsAt w G 5 (valCs vs) b off
 | [], _, _, _ => by simp [valCs, RowsAt]
 | v :: vs, b, off, h => by
  simp only [ValsAt] at h; obtain ⟨⟨cs, h1, h2, h3⟩, h4⟩ := h; simp only [valCs, RowsAt]; exact ⟨⟨cs, h1, h2, valAt_cells v cs h3⟩, valsAt_cells vs b (off + 5) h4⟩
end
mutual
def cntV : VT → Nat → Int → Int
 | .mk k n s ks vs, d, m => if 60 < d then m + 1 else if m < (ks.length : Int) ∨ m < (vs.length : Int) then m + 1 else cntVs vs d m 1
def cntVs : List VT → Nat → Int → Int → Int
 | [], _, _, c => c
 | v :: vs, d, m, c => if c ≤ m then cntVs vs d m (c + cntV v (d + 1) (m - c)) else c
end
mutual
theorem cntV_le : ∀ (t : VT) (d : Nat) (m : Int), 0 ≤ m → 1 ≤ cntV t d m ∧ cntV t d m ≤ m + 1
 | .mk k n s ks vs, d, m, h => by
  simp only [cntV]
  split
  ·omega
  ·split
   ·omega
   ·exact cntVs_le vs d m 1 (by omega) (by omega)
theorem cntVs_le : ∀ (vs : List VT) (d : Nat) (m c : Int), 1 ≤ c → c ≤ m + 1 → 1 ≤ cntVs vs d m c ∧ cntVs vs d m c ≤ m + 1
 | [], d, m, c, h1, h2 => by simp only [cntVs]; omega
 | v :: vs, d, m, c, h1, h2 => by
  simp only [cntVs]
  split
  ·rename_i hc
   have := cntV_le v (d + 1) (m - c) (by omega); exact cntVs_le vs d m _ (by omega) (by omega)
  ·omega
end
set_option maxRecDepth 100000 in
set_option maxHeartbeats 8000000 in
theorem rCount : ∀ (z : Nat) (t : VT), SizeOf.sizeOf t ≤ z → ∀ (G : Nat → Prop) (w : World) (cs : List Value) (d : Nat) (m : Int), ValAt w G t cs → d ≤ 1000 → 0 ≤ m → m ≤ 1000000 →
  Calls Tryz.prog 53 #[.agg cs.toArray, .int .i64 d, .int .i64 m] w (fun e w' => e = .returned (.int .i64 (cntV t d m)) ∧ Only (fun _ => False) w w') := by
 intro z
 induction z with
 | zero => intro t ht; exfalso; obtain ⟨k, n, s, ks, vs⟩ := t; simp only [VT.mk.sizeOf_spec] at ht; omega
 | succ z ih =>
  intro t ht G w cs d m hv hd hm0 hm1; obtain ⟨k, n, s, ks, vs⟩ := t; have IH := hid ih; clear ih; have HT := hid ht; clear ht; simp only [ValAt] at hv; obtain ⟨ak, ck, av, cv, rfl, hk, hn, hs, hck, hcv, hK, hV⟩ := hv; have hwb : ∃ wb, wb = w.alloc (.cells #[.int .u8 k, .int .i64 n, .string ⟨s.toArray⟩, .slice ak ks.length ck, .slice av vs.length cv] 35) := ⟨_, rfl⟩; obtain ⟨wb, hwb⟩ := hwb; have ob : Only (fun _ => False) w wb := by rw [hwb]; exact (Only.refl _ w).alloc _
  have hbox : wb.heap[w.heap.size]? = some (.cells #[.int .u8 k, .int .i64 n, .string ⟨s.toArray⟩, .slice ak ks.length ck, .slice av vs.length cv] 35 (0, 0)) := by rw [hwb]; exact heap_new w _
  have hkeep : ∀ w', Only (fun _ => False) wb w' → w'.heap[w.heap.size]? = some (.cells #[.int .u8 k, .int .i64 n, .string ⟨s.toArray⟩, .slice ak ks.length ck, .slice av vs.length cv] 35 (0, 0)) := fun w' ho => by
   rw [ho.block _ (Array.getElem?_eq_some_iff.1 hbox).1 (fun h => h)]; exact hbox
  obtain ⟨c0, c1, c2, c3, c4⟩ := box_cells hbox; rw [hwb] at c0 c1 c2 c3 c4; have HKEEP := hid hkeep; have HOB := hid ob; have HV := hid hV; have HWB := hid hwb; clear hkeep ob hK hV hbox hwb; have hvl0 : (0 : Int) ≤ (vs.length : Int) := by omega
  have hkl0 : (0 : Int) ≤ (ks.length : Int) := by omega
  simp only [cntV]
  by_cases hd60 : 60 < d
  ·have t0 : decide ((60 : Int) < (d : Int)) = true := by simp; omega
   rw [if_pos hd60]
   go_enter Tryz.func53, Tryz.ntmps53
   go_wp2_with fail
   go_ret
   rw [← HWB.out]; exact ⟨rfl, HOB.out⟩
  ·have t0 : decide ((60 : Int) < (d : Int)) = false := by simp; omega
   rw [if_neg hd60]
   by_cases hg : m < (ks.length : Int) ∨ m < (vs.length : Int)
   ·rw [if_pos hg]; have t1 : decide (m < (ks.length : Int)) = true ∨ (decide (m < (ks.length : Int)) = false ∧ decide (m < (vs.length : Int)) = true) := by
     simp only [decide_eq_true_eq, decide_eq_false_iff_not]; omega
    clear hg
    rcases t1 with t1 | ⟨t1, t2⟩
    all_goals
     go_enter Tryz.func53, Tryz.ntmps53
     go_wp2_with fail
     go_ret
     rw [← HWB.out]; exact ⟨rfl, HOB.out⟩
   ·rw [if_neg hg]; have t1 : decide (m < (ks.length : Int)) = false := by simp; omega
    have t2 : decide (m < (vs.length : Int)) = false := by simp; omega
    clear hg
    go_enter Tryz.func53, Tryz.ntmps53
    go_wp2_with fail
    rw [← HWB.out]
    go_loopw [7, 8] (fun p v wr => ∃ (i : Nat) (c : Int), p = .int .i64 c ∧ v = .int .i64 (i : Int) ∧ i ≤ vs.length ∧ 1 ≤ c ∧ c ≤ m + 1 ∧ cntVs (vs.drop i) d m c = cntVs vs d m 1 ∧ Hid (Only (fun _ => False) wb wr)) (fun _ v _ => vs.length - (intOf v).toNat)
    case atStart => exact ⟨0, 1, rfl, by simp, by omega, by omega, by omega, by simp, hid (Only.refl _ _)⟩
    case round =>
     obtain ⟨i, c, rfl, rfl, hi, hc1, hc2, hcv, HO⟩ := hrel; obtain ⟨c0, c1, c2, c3, c4⟩ := box_cells (HKEEP.out _ HO.out); have HCV := hid hcv; clear hcv
     by_cases hlt : i < vs.length
     ·have t3 : decide ((i : Int) < (vs.length : Int)) = true := by simpa using hlt
      by_cases hcm : c ≤ m
      ·have t4 : decide (c ≤ m) = true := by simpa using hcm
       have hi0 : (0 : Int) ≤ (i : Int) := by omega
       have hi1 : (i : Int) < (vs.length : Int) := by omega
       obtain ⟨bv, offv, hav, hGv, hbv, hvals⟩ := HV.out (by omega); subst hav; obtain ⟨cs, hcl, hcr, hcv'⟩ := valsAt_get hvals i hlt; obtain ⟨k', n', s', ak', lk', ck', av', lv', cv', rfl⟩ := valAt_form hcv'; have oww : Only (fun _ => False) w wr := HOB.out.trans HO.out; have hrg := range_only hcr hbv oww (fun h => h); have hv9 := valAt_only (S := fun _ => False) oww (fun _ _ h => h) vs[i] _ hcv'; have hrec := IH.out vs[i] (by have h1 := sizeOf_get (k := k) (n := n) (s := s) (ks := ks) i hlt; have h2 := HT.out; omega) G wr _ (d + 1) (m - c) hv9 (by omega) (by omega) (by omega); have hb := cntV_le vs[i] (d + 1) (m - c) (by omega); have hnx : cntVs (vs.drop (i + 1)) d m (c + cntV vs[i] (d + 1) (m - c)) = cntVs vs d m 1 := by
        have h := HCV.out; rw [List.drop_eq_getElem_cons hlt] at h; simp only [cntVs] at h; rw [if_pos hcm] at h; exact h
       rw [Int.natCast_add] at hrec; have HREC := hid hrec; have HRG := hid hrg; have HNX := hid hnx; clear hrec hrg hv9 hcr hcv' oww hvals hcl hnx
       go_upto_region 9 with (fail)
       refine wp_region_lit ?_
       iterate 5 (refine wpList_plain rfl fun J hJ => ?_; go_simp; refine hJ _ _ ?_; clear hJ J)
       refine wpList_load_mid rfl 35 (.tmp 43) rfl bv (offv + i * 5) (by rfl) [.int .u8 k', .int .i64 n', .string ⟨s'.toArray⟩, .slice ak' lk' ck', .slice av' lv' cv'] _ HRG.out Tryz.underlying35 rfl (by kernel_rfl) ?_
       go_wp2_with fail
       refine HREC.out.mono ?_
       rintro e w7 ⟨rfl, o7⟩; have O7 := hid o7; clear o7
       go_wp2_with fail
       go_roundw
       case rel => exact ⟨i + 1, _, rfl, by simp [go_sem], by omega, by omega, by omega, HNX.out, hid (HO.out.trans O7.out)⟩
       case measure => simp [intOf]; omega
      ·have t4 : decide (c ≤ m) = false := by simpa using hcm
       go_wp2_with fail
       go_ret
       refine ⟨?_, HOB.out.trans HO.out⟩
       have h := HCV.out; rw [List.drop_eq_getElem_cons hlt] at h; simp only [cntVs] at h; rw [if_neg (by omega)] at h; rw [← h]
       rfl
     ·have hke : i = vs.length := by omega
      subst hke; have t3 : decide ((vs.length : Int) < (vs.length : Int)) = false := by simp
      go_wp2_with fail
      go_ret
      refine ⟨?_, HOB.out.trans HO.out⟩
      have h := HCV.out; rw [List.drop_length] at h; simp only [cntVs] at h; rw [← h]
      rfl
def greatV (t : VT) : Bool := decide (3000 < cntV t 0 3000)
theorem rGreat (t : VT) (G : Nat → Prop) (w : World) (cs : List Value) (hv : ValAt w G t cs) :
  Calls Tryz.prog 16 #[.agg cs.toArray] w (fun e w' => e = .returned (.bool (greatV t)) ∧ Only (fun _ => False) w w') := by
 have hv' := hv; obtain ⟨k, n, s, ak, lk, ck, av, lv, cv, rfl⟩ := valAt_form hv; have hwb : ∃ wb, wb = w.alloc (.cells #[.int .u8 k, .int .i64 n, .string ⟨s.toArray⟩, .slice ak lk ck, .slice av lv cv] 35) := ⟨_, rfl⟩; obtain ⟨wb, hwb⟩ := hwb; have ob : Only (fun _ => False) w wb := by rw [hwb]; exact (Only.refl _ w).alloc _
 have h := rCount (SizeOf.sizeOf t) t (Nat.le_refl _) G wb _ 0 3000 (valAt_only ob (fun _ _ h => h) t _ hv') (by omega) (by omega) (by omega); rw [hwb] at h ob; have H := hid h; have OB := hid ob; clear h ob hwb hv hv'
 go_enter Tryz.func16, Tryz.ntmps16
 go_wp2_with fail
 refine H.out.mono ?_
 rintro e w7 ⟨rfl, o7⟩; have O7 := hid o7; clear o7
 go_wp2_with fail
 go_ret
 exact ⟨rfl, OB.out.trans O7.out⟩
def ownF (d k : Nat) (n : Int) (s : List UInt8) (ks : List (List UInt8)) (vs : List VT) : Prop :=
 d < 24 ∧ k ≤ 8 ∧ vs.length ≤ 200 ∧ s.length ≤ 200 ∧ (n ≠ 0 → k = 1 ∨ (k = 3 ∧ n = 1)) ∧ (s ≠ [] → k = 2 ∨ k = 4 ∨ k = 7 ∨ k = 8) ∧ (vs ≠ [] → k = 5 ∨ k = 6) ∧ (k = 6 → ks.length = vs.length) ∧ (k ≠ 6 → ks = [])
instance (k : Nat) (vs : List VT) : Decidable (vs ≠ [] → k = 5 ∨ k = 6) := by
 cases vs
 ·exact .isTrue (fun h => absurd rfl h)
 ·by_cases h : k = 5 ∨ k = 6
  ·exact .isTrue (fun _ => h)
  ·exact .isFalse (fun g => h (g (by simp)))
instance (d k : Nat) (n : Int) (s : List UInt8) (ks : List (List UInt8)) (vs : List VT) : Decidable (ownF d k n s ks vs) := by unfold ownF; exact inferInstance
mutual
def formV : VT → Nat → Bool
 | .mk k n s ks vs, d => if ownF d k n s ks vs then formVs (decide (k = 6)) ks vs (d + 1) else false
def formVs : Bool → List (List UInt8) → List VT → Nat → Bool
 | _, _, [], _ => true
 | o, ks, v :: vs, d => if (o = true ∧ 32 < (ks.headD []).length) then false else if formV v d then formVs o ks.tail vs d else false
end
theorem formVs_drop (o : Bool) (d : Nat) : ∀ (ks : List (List UInt8)) (vs : List VT) (i : Nat) (h : i < vs.length), formVs o (ks.drop i) (vs.drop i) d = if (o = true ∧ 32 < (ks.getD i []).length) then false else if formV vs[i] d then formVs o (ks.drop (i + 1)) (vs.drop (i + 1)) d else false := by
 intro ks vs i h; rw [List.drop_eq_getElem_cons h]; simp only [formVs]; have e1 : (ks.drop i).headD [] = ks.getD i [] := by
  rw [List.headD_eq_head?_getD, List.head?_drop, List.getD_eq_getElem?_getD]
 rw [e1, List.tail_drop]
def FormIH (f : FuncId) (z : Nat) : Prop := ∀ (t : VT), SizeOf.sizeOf t ≤ z → ∀ (G : Nat → Prop) (w : World) (cs : List Value) (d : Nat), ValAt w G t cs → d ≤ 1000 →
  Calls Tryz.prog f #[.agg cs.toArray, .int .i64 d] w (fun e w' => e = .returned (.bool (formV t d)) ∧ Only (fun _ => False) w w')
def VT.kind : VT → Nat
 | .mk k _ _ _ _ => k
theorem VT.kind_mk (k : Nat) (n : Int) (s : List UInt8) (ks : List (List UInt8)) (vs : List VT) : (VT.mk k n s ks vs).kind = k := rfl
def rl (l : List It) : Nat := (ren l).length
theorem rl_nil : rl [] = 0 := rfl
theorem rl_app (a b : List It) : rl (a ++ b) = rl a + rl b := by unfold rl; rw [ren_app, List.length_append]
theorem rl_cons (i : It) (b : List It) : rl (i :: b) = i.src.length + rl b := by unfold rl; rw [ren_cons, List.length_append]
theorem rl_nm (s : List UInt8) : (nmI s).src.length = s.length := rfl
theorem rl_sg (c : UInt8) : (sgI c).src.length = 1 := rfl
theorem rl_sp (c : UInt8) : (It.sp c).src.length = 1 := rfl
def sumB {α : Type} (μ : α → Nat) : List α → Nat
 | [] => 0
 | x :: l => μ x + sumB μ l
theorem flat_sum {α : Type} (f : α → List It) : ∀ l : List α, rl (l.flatMap f) = sumB (fun x => rl (f x)) l
 | [] => rfl
 | x :: l => by rw [List.flatMap_cons, rl_app, flat_sum f l]; rfl
theorem sep_sum (g : List It) (l : List (List It)) : rl (sepI g l) ≤ sumB (fun b => rl b + rl g) l := by
 cases l with
 | nil => exact Nat.le_refl _
 | cons a l =>
  show rl (a ++ l.flatMap fun b => g ++ b) ≤ (rl a + rl g) + sumB _ l
  rw [rl_app, flat_sum]; have : sumB (fun x => rl (g ++ x)) l = sumB (fun b => rl b + rl g) l := by
   congr 1; funext x; rw [rl_app]; omega
  omega
theorem esc_rl : ∀ l : List UInt8, (escS l).length ≤ 2 * l.length
 | [] => by simp [escS]
 | c :: l => by
  have := esc_rl l; have h1 : (esc1 c).length ≤ 2 := by
    unfold esc1; repeat' split
    all_goals simp
  rw [escS_cons, List.length_append, List.length_cons]; omega
theorem rl_gap : rl gapI = 2 := rfl
theorem formVs_cons {o : Bool} {ks : List (List UInt8)} {v : VT} {vs : List VT} {d : Nat} (h : formVs o ks (v :: vs) d = true) : (o = true → (ks.headD []).length ≤ 32) ∧ formV v d = true ∧ formVs o ks.tail vs d = true := by
 simp only [formVs] at h
 split at h
 ·cases h
 ·rename_i hn
  split at h
  ·rename_i hv
   refine ⟨fun ho => ?_, hv, h⟩
   by_cases hc : 32 < (ks.headD []).length
   ·exact absurd ⟨ho, hc⟩ hn
   ·omega
  ·cases h
theorem formV_mk {k : Nat} {n : Int} {s : List UInt8} {ks : List (List UInt8)} {vs : List VT} {d : Nat} (h : formV (.mk k n s ks vs) d = true) : ownF d k n s ks vs ∧ formVs (decide (k = 6)) ks vs (d + 1) = true := by
 simp only [formV] at h
 split at h
 ·exact ⟨by assumption, h⟩
 ·cases h
mutual
theorem form_wellQ {w : World} {G : Nat → Prop} : ∀ (t : VT) (d : Nat) (cs : List Value), ValAt w G t cs → formV t d = true → WellQ t
 | .mk k n s ks vs, d, cs, h, hf => by
  obtain ⟨⟨h1, h2, h3, h4, h5, h6, h7, h8, h9⟩, hvs⟩ := formV_mk hf; simp only [ValAt] at h; obtain ⟨ak, ck, av, cv, -, -, hn, -, -, -, -, hv⟩ := h; refine .mk k n s ks vs h2 hn ?_ ?_
  ·by_cases h0 : vs = []
   ·exact .inl h0
   ·rcases h7 h0 with h | h
    ·exact .inr (.inl h)
    ·exact .inr (.inr ⟨h, h8 h⟩)
  ·by_cases h0 : 0 < vs.length
   ·obtain ⟨b, off, -, -, -, hr⟩ := hv h0; exact forms_wellQ vs (decide (k = 6)) ks (d + 1) b off hr hvs
   ·have : vs = [] := List.eq_nil_of_length_eq_zero (by omega); subst this; intro v hv; cases hv
theorem forms_wellQ {w : World} {G : Nat → Prop} : ∀ (vs : List VT) (o : Bool) (ks : List (List UInt8)) (d b off : Nat), ValsAt w G vs b off → formVs o ks vs d = true → ∀ v ∈ vs, WellQ v
 | [], _, _, _, _, _, _, _ => fun v hv => by cases hv
 | v :: vs, o, ks, d, b, off, h, hf => by
  obtain ⟨g1, g2, g3⟩ := formVs_cons hf; simp only [ValsAt] at h; obtain ⟨⟨cs, -, -, h3⟩, h4⟩ := h; intro x hx; have hv := form_wellQ v d cs h3 g2; have hvs := forms_wellQ vs o ks.tail d b (off + 5) h4 g3
  rcases List.mem_cons.1 hx with rfl | hx
  ·exact hv
  ·exact hvs x hx
end
theorem cntVs_mono : ∀ (vs : List VT) (d : Nat) (m c : Int), c ≤ cntVs vs d m c
 | [], _, _, _ => by simp only [cntVs]; exact Int.le_refl _
 | v :: vs, d, m, c => by
  simp only [cntVs]
  split
  ·rename_i h
   have h1 := cntV_le v (d + 1) (m - c) (by omega); have h2 := cntVs_mono vs d m (c + cntV v (d + 1) (m - c)); omega
  ·exact Int.le_refl _
theorem numS_len {n : Int} (h : -9223372036854775808 ≤ n ∧ n ≤ 9223372036854775807) : (numS n).length ≤ 20 := by
 unfold numS sgn; have := digS_len 18 n.natAbs (by omega)
 split <;> simp <;> omega
def itemsI (o : Bool) (ks : List (List UInt8)) (vs : List VT) : List (List It) := if o then List.zipWith pairI ks (valsI vs) else valsI vs
mutual
theorem pv_len : ∀ (t : VT) (d : Nat) (m : Int), WellQ t → 0 ≤ m → formV t d = true → cntV t d m ≤ m → (rl (valI t) : Int) + 80 ≤ 500 * cntV t d m
 | .mk k n s ks vs, d, m, hs, hm, hf, hc => by
  obtain ⟨⟨h1, h2, h3, h4, h5, h6, h7, h8, h9⟩, hvs⟩ := formV_mk hf; obtain ⟨hn, hvw⟩ : (-9223372036854775808 ≤ n ∧ n ≤ 9223372036854775807) ∧ ∀ v ∈ vs, WellQ v := by cases hs with | mk _ _ _ _ _ _ hn _ hv => exact ⟨hn, hv⟩
  simp only [cntV] at hc ⊢; rw [if_neg (by omega)] at hc ⊢
  split at hc
  ·omega
  ·rename_i hn'
   rw [if_neg hn']; have hrec := pvs_len (decide (k = 6)) ks vs d m 1 hvw (by omega) hvs hc; have hmono := cntVs_mono vs d m 1; rw [valI_eq]; have hesc := esc_rl s; have hnum := numS_len hn
   split
   ·rw [rl_cons, rl_nil]; show ((numS n).length + 0 : Nat) + (80 : Int) ≤ _; omega
   ·split
    ·rw [rl_cons, rl_nil]; have : (quI s).src.length = (escS s).length + 2 := by show (34 :: (escS s ++ [34])).length = _; simp
     rw [this]; omega
    ·split
     ·rw [rl_cons, rl_nil, rl_nm]; have : (if n = 1 then wTrue else wFalse).length ≤ 5 := by split <;> decide
      omega
     ·split
      ·rw [rl_cons, rl_nil, rl_nm]; omega
      ·split
       ·rw [rl_cons, rl_cons, rl_nil, rl_nm, rl_sg]; omega
       ·split
        ·rename_i h5'
         have hq := sep_sum gapI (vs.map valI); rw [rl_gap] at hq; rw [show decide (k = 6) = false from decide_eq_false (by omega)] at hrec; unfold itemsI at hrec; rw [if_neg (by decide), valsI_map] at hrec; rw [rl_cons, rl_app, rl_cons, rl_nil, rl_sg, rl_sg]; omega
        ·split
         ·rename_i h6'
          have hq := sep_sum gapI (List.zipWith pairI ks (vs.map valI)); rw [rl_gap] at hq; rw [show decide (k = 6) = true from decide_eq_true (by omega)] at hrec; unfold itemsI at hrec; rw [if_pos rfl, valsI_map] at hrec; rw [rl_cons, rl_app, rl_cons, rl_nil, rl_sg, rl_sg]; omega
         ·rw [rl_cons, rl_nil, rl_nm]; have : wNull.length = 4 := rfl; omega
theorem pvs_len : ∀ (o : Bool) (ks : List (List UInt8)) (vs : List VT) (d : Nat) (m c : Int), (∀ v ∈ vs, WellQ v) → 1 ≤ c → formVs o ks vs (d + 1) = true → cntVs vs d m c ≤ m → (sumB (fun b => rl b + 2) (itemsI o ks vs) : Int) + 500 * c ≤ 500 * cntVs vs d m c
 | o, ks, [], _, _, _, _, _, _, _ => by
  have : itemsI o ks [] = [] := by unfold itemsI valsI; cases o <;> simp
  rw [this]; simp only [cntVs, sumB]; omega
 | o, ks, v :: vs, d, m, c, hs, h1, hf, hc => by
  obtain ⟨g1, g2, g3⟩ := formVs_cons hf; simp only [cntVs] at hc ⊢
  split at hc
  ·rename_i hcm
   rw [if_pos hcm]; have hm := cntVs_mono vs d m (c + cntV v (d + 1) (m - c)); have hr := pvs_len o ks.tail vs d m (c + cntV v (d + 1) (m - c)) (fun x hx => hs x (by simp [hx])) (by have := cntV_le v (d + 1) (m - c) (by omega); omega) g3 hc; have hv := pv_len v (d + 1) (m - c) (hs v (by simp)) (by omega) g2 (by omega)
   cases o with
   | false =>
    have e : itemsI false ks (v :: vs) = valI v :: itemsI false ks.tail vs := by unfold itemsI; simp [valsI]
    rw [e]; simp only [sumB]; omega
   | true =>
    have g1 := g1 rfl
    cases ks with
    | nil =>
     have e : itemsI true [] (v :: vs) = [] := by unfold itemsI; simp
     rw [e]; simp only [sumB]; omega
    | cons k ks =>
     have e : itemsI true (k :: ks) (v :: vs) = pairI k (valI v) :: itemsI true ks vs := by unfold itemsI; simp [valsI]
     have hk : k.length ≤ 32 := by simpa using g1
     have hr' : (sumB (fun b => rl b + 2) (itemsI true ks vs) : Int) + 500 * (c + cntV v (d + 1) (m - c)) ≤ 500 * cntVs vs d m (c + cntV v (d + 1) (m - c)) := hr; have hp : rl (pairI k (valI v)) = k.length + (1 + (1 + rl (valI v))) := by unfold pairI; rw [rl_cons, rl_cons, rl_cons, rl_nm, rl_sg, rl_sp]
     rw [e]; simp only [sumB]; rw [hp]; omega
  ·omega
end
theorem val_len {t : VT} (hs : WellQ t) (hg : greatV t = false) (hf : formV t 0 = true) : (ren (valI t)).length ≤ 1500000 := by
 have hc : cntV t 0 3000 ≤ 3000 := by simpa [greatV] using hg
 have := pv_len t 0 3000 hs (by decide) hf hc; have e : rl (valI t) = (ren (valI t)).length := rfl; omega
end Go.Proofs.YtnkpoddbbdmipaaGreatDoor
