/- parse.Document. -/
import Derived.Test.YtgephneppgcnlaaDoorPdA
import Derived.Test.YtgephneppgcnlaaDoorRdF
import Derived.Test.YtgephneppgcnlaaDoorRdO
import Derived.Test.YtgephneppgcnlaaDoorRgA
namespace Go.Proofs.YtgephneppgcnlaaDoor
open Go Go.RowKit
set_option linter.unusedVariables false
set_option linter.unusedSimpArgs false

set_option maxRecDepth 100000 in
set_option maxHeartbeats 40000000 in
theorem document_any (s : List UInt8) (w : World) (hs : s.length ≤ maxLen) :
    Calls Tryd.prog 14 #[.string ⟨s.toArray⟩] w (DocRes w (docP s)) := by
  obtain ⟨Q, hQ⟩ : ∃ Q, DocRes w (docP s) = Q := ⟨_, rfl⟩
  rw [hQ]
  obtain ⟨D, hD⟩ : ∃ D, w.heap.size = D := ⟨_, rfl⟩
  obtain ⟨w0, hw0⟩ : ∃ w0, ((w.alloc (.cells #[.slice none 0 0, .slice none 0 0] 26)).alloc (.cells #[.int .i64 0] 3)).alloc (.cells #[.int .i64 0] 27) = w0 := ⟨_, rfl⟩
  have hz0 : w0.heap.size = D + 3 := by rw [← hw0, ← hD]; simp
  have hD0 : w0.heap[D]? = some (.cells #[.slice none 0 0, .slice none 0 0] 26 (0, 0)) := by rw [← hw0, ← hD]; exact heap_old (heap_old (heap_new _ _) _) _
  have hA0 : w0.heap[D + 1]? = some (.cells #[.int .i64 0] 3 (0, 0)) := by
    rw [← hw0, ← hD]; refine heap_old ?_ _
    have := heap_new (w.alloc (.cells #[.slice none 0 0, .slice none 0 0] 26)) (.cells #[.int .i64 0] 3)
    simpa using this
  have hE0 : w0.heap[D + 2]? = some (.cells #[.int .i64 0] 27 (0, 0)) := by
    rw [← hw0, ← hD]
    have := heap_new ((w.alloc (.cells #[.slice none 0 0, .slice none 0 0] 26)).alloc (.cells #[.int .i64 0] 3)) (.cells #[.int .i64 0] 27)
    simpa using this
  have ho0 : Only (fun _ => False) w w0 := by rw [← hw0]; exact (((Only.refl _ w).alloc _).alloc _).alloc _
  have J := Lib.hid (tokens_any ⟨s.toArray⟩ w0 hs)
  rw [show (⟨s.toArray⟩ : ByteArray).data.toList = s from rfl] at J
  have HQ := Lib.hid hQ; have HDD := Lib.hid hD; have HW0 := Lib.hid hw0; have HZ0 := Lib.hid hz0; have HD0 := Lib.hid hD0; have HA0 := Lib.hid hA0; have HE0 := Lib.hid hE0; have HO0 := Lib.hid ho0; have HDP := Lib.hid (show docP s = match toks s with | .bad a e => .bad a e | .ok ts => match docF (ts.length + 1) ⟨[], []⟩ ts with | .ok d _ => .ok d | .bad a e => .bad a e from rfl)
  have HWD := Lib.hid (show w.heap.size ≤ D by omega)
  have hmf : ∀ (fn : Fn) (first cap : Array Value) (w : World), (Instr.makeFunc fn first cap).run Tryd.prog w = .ok (.func fn first cap) w := fun _ _ _ _ => rfl
  cases ht : toks s with
  | bad a c =>
    rw [ht] at J HDP
    have hc := toks_bad ht
    have hne : ((c : Int) != 0) = true := by simp; omega
    clear hQ hD hw0 hz0 hD0 hA0 hE0 ho0 ht hs
    go_enter_defers Tryd.func14, Tryd.ntmps14
    go_upto_region 1 with (fail)
    rw [HDD.out, HW0.out]
    go_wp2_with fail
    refine J.out.mono ?_
    rintro e w1 ⟨rfl, o1⟩
    have hD1 := (o1.block D (by have := HZ0.out; omega) (fun h => h)).trans HD0.out
    have hA1 := (o1.block (D + 1) (by have := HZ0.out; omega) (fun h => h)).trans HA0.out
    have hE1 := (o1.block (D + 2) (by have := HZ0.out; omega) (fun h => h)).trans HE0.out
    obtain ⟨wA, hwA⟩ : ∃ x, (w1.setCell ⟨D + 1, 0, none⟩ (.int .i64 (a : Int))).setCell ⟨D + 2, 0, none⟩ (.int .i64 (c : Int)) = x := ⟨_, rfl⟩
    have hA2 : wA.heap[D + 1]? = some (.cells #[.int .i64 (a : Int)] 3 (0, 0)) := by
      rw [← hwA]; have := heap_set_ne (a := ⟨D + 2, 0, none⟩) (heap_set (o := 0) hA1 (.int .i64 (a : Int))) (by show D + 1 ≠ D + 2; omega) (.int .i64 (c : Int)); simpa using this
    have hE2 : wA.heap[D + 2]? = some (.cells #[.int .i64 (c : Int)] 27 (0, 0)) := by
      rw [← hwA]; have := heap_set (o := 0) (heap_set_ne (a := ⟨D + 1, 0, none⟩) hE1 (by show D + 2 ≠ D + 1; omega) (.int .i64 (a : Int))) (.int .i64 (c : Int)); simpa using this
    have hD2 : wA.heap[D]? = some (.cells #[.slice none 0 0, .slice none 0 0] 26 (0, 0)) := by
      rw [← hwA]; exact heap_set_ne (heap_set_ne hD1 (by show D ≠ D + 1; omega) _) (by show D ≠ D + 2; omega) _
    have hoA : Only (fun _ => False) w wA := by
      have := ((HO0.out.trans o1).mono (T := fun k => k = D + 1 ∨ k = D + 2) (fun _ _ h => h.elim)).setCell (p := ⟨D + 1, 0, none⟩) (.inl (.inl rfl)) (.int .i64 (a : Int))
      have := this.setCell (p := ⟨D + 2, 0, none⟩) (.inl (.inr rfl)) (.int .i64 (c : Int))
      rw [hwA] at this
      exact this.mono (fun q hq h => by have := HWD.out; rcases h with h | h <;> omega)
    obtain ⟨cA, fA⟩ := box1 hA1
    obtain ⟨cE, fE⟩ := box1 hE1
    obtain ⟨cA2, fA2⟩ := box1 hA2
    obtain ⟨cE2, fE2⟩ := box1 hE2
    have HA2 := Lib.hid hA2; have HE2 := Lib.hid hE2; have HD2 := Lib.hid hD2; have HOA := Lib.hid hoA; have HWA := Lib.hid hwA
    clear hD1 hA1 hE1 hA2 hE2 hD2 hoA hwA o1
    have HC2 := Lib.hid (And.intro cA2 (And.intro fA2 (And.intro cE2 fE2)))
    clear cA2 fA2 cE2 fE2
    go_upto_region 2 with (fail)
    rw [HWA.out]
    clear cA fA cE fE
    obtain ⟨cA, fA, cE, fE⟩ := HC2.out
    go_upto_region 3 with (fail)
    clear cA fA cE fE
    refine wp_region_stepsM2 5 (by kernel_rfl) rfl (by kernel_rfl) [some 16, some 17, some 18, none, none] rfl rfl 3 4 (fun q => q = D) (fun q => q = D + 1) [4, 5] (by kernel_rfl) [0] (by kernel_rfl) [0, 1, 3] (fun _ => by kernel_rfl) (by decide) (by decide) (.inr ⟨by decide, by decide⟩) [(fun v _ => v = (.agg #[.slice none 0 0, .slice none 0 0])), (fun v _ => v = (.int .i64 (a : Int))), (fun v _ => v = (.int .i64 (c : Int))), (fun v w2 => w2.heap[D]? = some (.cells #[.slice none 0 0, .slice none 0 0] 26 (0, 0))), (fun v w2 => w2.heap[D + 1]? = some (.cells #[.int .i64 (a : Int)] 3 (0, 0)))] rfl ⟨?_, ?_, ?_, ?_, ?_, trivial⟩ _ rfl ⟨?_, ?_, ?_, ?_, ?_, trivial⟩ ?_
    · exact Stable.is _ _
    · exact Stable.is _ _
    · exact Stable.is _ _
    · intro v w1 w2 h ho
      have ho : Only (fun q => q = D + 1) w1 w2 := ho
      exact (by exact (ho.block D (Array.getElem?_eq_some_iff.1 h).1 (fun h => by have h : D = D + 1 := h; omega)).trans h)
    · intro v w1 w2 h ho
      have ho : Only (fun _ => False) w1 w2 := ho
      exact (by exact (ho.block (D + 1) (Array.getElem?_eq_some_iff.1 h).1 (fun h => h)).trans h)
    · intro x wx ox hN TT HTT
      have ox : Only (fun _ => False) _ wx := ox
      clear hN
      unfold StepTo
      simp only [putAll, Act.put, List.setIfInBounds_toArray, List.set_cons_succ, List.set_cons_zero]
      go_wp2_with fail
      exact ⟨rfl, _, rfl, HTT.out _ _ (rfl) (Only.refl _ _)⟩
    · intro x wx ox hN TT HTT
      have ox : Only (fun q => q = D) _ wx := ox
      clear hN
      unfold StepTo
      simp only [putAll, Act.put, List.setIfInBounds_toArray, List.set_cons_succ, List.set_cons_zero]
      have hx := (ox.block (D + 1) (Array.getElem?_eq_some_iff.1 HA2.out).1 (fun h => by have h : D + 1 = D := h; omega)).trans HA2.out
      obtain ⟨cA, fA⟩ := box1 hx
      clear hx
      go_wp2_with fail
      exact ⟨rfl, _, rfl, HTT.out _ _ (rfl) (Only.refl _ _)⟩
    · intro x wx ox hN TT HTT
      have ox : Only (fun q => (fun q => q = D) q ∨ (fun q => q = D + 1) q) _ wx := ox
      clear hN
      unfold StepTo
      simp only [putAll, Act.put, List.setIfInBounds_toArray, List.set_cons_succ, List.set_cons_zero]
      have hx := (ox.block (D + 2) (Array.getElem?_eq_some_iff.1 HE2.out).1 (fun h => by rcases h with h | h; have h : D + 2 = D := h; omega; have h : D + 2 = D + 1 := h; omega)).trans HE2.out
      obtain ⟨cA, fA⟩ := box1 hx
      clear hx
      go_wp2_with fail
      exact ⟨rfl, _, rfl, HTT.out _ _ (rfl) (Only.refl _ _)⟩
    · intro x wx ox hN TT HTT
      have ox : Only (fun _ => False) _ wx := ox
      have r16 : x 0 = (.agg #[.slice none 0 0, .slice none 0 0]) := hN.1 rfl
      clear hN
      unfold StepTo
      simp only [putAll, Act.put, List.setIfInBounds_toArray, List.set_cons_succ, List.set_cons_zero, r16]
      clear r16
      have hd := (ox.block D (Array.getElem?_eq_some_iff.1 HD2.out).1 (fun h => h)).trans HD2.out
      go_wp2_with ((refine wpList_store_box (o := ⟨none, _, _, _, _, _⟩) rfl 26 (.tmp 2) (.tmp 16) (by rfl) D [.slice none 0 0, .slice none 0 0] [.slice none 0 0, .slice none 0 0] (by rfl) (by rfl) hd (by rfl) (by kernel_rfl) (by intro u hu; simp at hu; subst hu; rfl) ?_; intro w9 k1 k2))
      exact ⟨rfl, undef, rfl, HTT.out undef _ k1 k2⟩
    · intro x wx ox hN TT HTT
      have ox : Only (fun q => q = D) _ wx := ox
      have r17 : x 1 = (.int .i64 (a : Int)) := hN.1 rfl
      have rN : (fun (v : Value) (w2 : World) => w2.heap[D]? = some (.cells #[.slice none 0 0, .slice none 0 0] 26 (0, 0))) (x 3) wx := hN.2.1 rfl
      have r16 : x 0 = (.agg #[.slice none 0 0, .slice none 0 0]) := hN.2.2.1 rfl
      clear hN
      unfold StepTo
      simp only [putAll, Act.put, List.setIfInBounds_toArray, List.set_cons_succ, List.set_cons_zero, r17, r16]
      clear r17 r16
      have hx := (ox.block (D + 1) (Array.getElem?_eq_some_iff.1 HA2.out).1 (fun h => by have h : D + 1 = D := h; omega)).trans HA2.out
      obtain ⟨cA, fA⟩ := box1 hx
      have hx2 := heap_set (o := 0) hx (.int .i64 (a : Int))
      have hx2 : (wx.setCell ⟨D + 1, 0, none⟩ (.int .i64 (a : Int))).heap[D + 1]? = some (.cells #[.int .i64 (a : Int)] 3 (0, 0)) := by simpa using hx2
      have ho2 : Only (fun q => q = D + 1) wx (wx.setCell ⟨D + 1, 0, none⟩ (.int .i64 (a : Int))) := (Only.refl (fun q => q = D + 1) _).setCell (p := ⟨D + 1, 0, none⟩) (.inl rfl) _
      have HX2 := Lib.hid hx2; have HO2 := Lib.hid ho2
      clear hx hx2 ho2
      go_wp2_with fail
      exact ⟨rfl, undef, rfl, HTT.out undef _ HX2.out HO2.out⟩
    intro xz wxz oxz hN
    have oxz : Only (fun q => (fun q => q = D) q ∨ (fun q => q = D + 1) q) _ wxz := oxz
    have r16 : xz 0 = (.agg #[.slice none 0 0, .slice none 0 0]) := hN.1
    have r17 : xz 1 = (.int .i64 (a : Int)) := hN.2.1
    have r18 : xz 2 = (.int .i64 (c : Int)) := hN.2.2.1
    have rN : (fun (v : Value) (w2 : World) => w2.heap[D]? = some (.cells #[.slice none 0 0, .slice none 0 0] 26 (0, 0))) (xz 3) wxz := hN.2.2.2.1
    have rN2 : (fun (v : Value) (w2 : World) => w2.heap[D + 1]? = some (.cells #[.int .i64 (a : Int)] 3 (0, 0))) (xz 4) wxz := hN.2.2.2.2.1
    clear hN
    simp only [putAll, Act.put, List.setIfInBounds_toArray, List.set_cons_succ, List.set_cons_zero, r16, r17, r18]
    clear r16 r17 r18
    have hEz := (oxz.block (D + 2) (Array.getElem?_eq_some_iff.1 HE2.out).1 (fun h => by rcases h with h | h; have h : D + 2 = D := h; omega; have h : D + 2 = D + 1 := h; omega)).trans HE2.out
    have hEy := heap_set (o := 0) hEz (.int .i64 (c : Int))
    have hEy : (wxz.setCell ⟨D + 2, 0, none⟩ (.int .i64 (c : Int))).heap[D + 2]? = some (.cells #[.int .i64 (c : Int)] 27 (0, 0)) := by simpa using hEy
    have hDy := heap_set_ne (a := ⟨D + 2, 0, none⟩) rN (by show D ≠ D + 2; omega) (.int .i64 (c : Int))
    have hAy := heap_set_ne (a := ⟨D + 2, 0, none⟩) rN2 (by show D + 1 ≠ D + 2; omega) (.int .i64 (c : Int))
    have hoy : Only (fun _ => False) w (wxz.setCell ⟨D + 2, 0, none⟩ (.int .i64 (c : Int))) := by
      have := (HOA.out.mono (T := fun k => k = D ∨ k = D + 1 ∨ k = D + 2) (fun _ _ h => h.elim)).trans ((((Only.refl _ wA).drew).trans' oxz (fun q _ h => h)).mono (T := fun k => k = D ∨ k = D + 1 ∨ k = D + 2) (fun q _ h => h.elim .inl (fun h => .inr (.inl h))))
      have := this.setCell (p := ⟨D + 2, 0, none⟩) (.inl (.inr (.inr rfl))) (.int .i64 (c : Int))
      exact this.mono (fun q hq h => by have := HWD.out; rcases h with h | h | h <;> omega)
    have hend : Q (.returned (.tuple #[.agg #[.slice none 0 0, .slice none 0 0], .int .i64 (a : Int), .int .i64 (c : Int)])) (wxz.setCell ⟨D + 2, 0, none⟩ (.int .i64 (c : Int))) := by rw [← HQ.out, HDP.out]; exact ⟨rfl, hoy⟩
    obtain ⟨y0, y1, -⟩ := boxN2 hDy
    obtain ⟨z0, -⟩ := box1 hAy
    obtain ⟨z1, -⟩ := box1 hEy
    have HEND := Lib.hid hend; have HYZ := Lib.hid (And.intro y0 (And.intro y1 (And.intro z0 z1)))
    obtain ⟨cE, fE⟩ := box1 hEz
    clear hend hEz hEy hDy hAy hoy y0 y1 z0 z1 rN rN2 oxz
    go_wp2_with fail
    obtain ⟨y0, y1, z0, z1⟩ := HYZ.out
    exact ⟨_, by simp [results, Tryd.results14, go_sem, y0, y1, z0, z1], HEND.out⟩
  | ok ts =>
    rw [ht] at J HDP
    obtain ⟨he, hl⟩ := toks_end ht
    obtain ⟨R, hR⟩ : ∃ R, docF (ts.length + 1) ⟨[], []⟩ ts = R := ⟨_, rfl⟩
    simp only [hR] at HDP
    have HCZ := Lib.hid (show ∀ a c, R = .bad a c → c ≠ 0 from fun a c h => docF_bad (hR.trans h))
    have HTE := Lib.hid he; have HTL := Lib.hid hl; have HR := Lib.hid hR
    clear hQ hD hw0 hz0 hD0 hA0 hE0 ho0 ht hs he hl hR
    go_enter_defers Tryd.func14, Tryd.ntmps14
    go_upto_region 1 with (fail)
    rw [HDD.out, HW0.out]
    go_wp2_with fail
    refine J.out.mono ?_
    rintro e w1 ⟨v, rfl, hv, o1⟩
    have hpos : 0 < ts.length := by have h1 := HTE.out; cases ts with | nil => exact h1.elim | cons t u => simp
    obtain ⟨g, cg, rfl, hgB, hgz, -⟩ := own_range hv hpos
    have htr := TRow.of_own hv hpos
    obtain ⟨aa, ccc, eqv, hle1, hle2, -⟩ := own_form hv
    have hD1 := (o1.block D (by have := HZ0.out; omega) (fun h => h)).trans HD0.out
    have hA1 := (o1.block (D + 1) (by have := HZ0.out; omega) (fun h => h)).trans HA0.out
    have hE1 := (o1.block (D + 2) (by have := HZ0.out; omega) (fun h => h)).trans HE0.out
    have hgD : D + 3 ≤ g := by have := HZ0.out; omega
    obtain ⟨wA, hwA⟩ : ∃ x, (w1.setCell ⟨D + 1, 0, none⟩ (.int .i64 0)).setCell ⟨D + 2, 0, none⟩ (.int .i64 0) = x := ⟨_, rfl⟩
    have hA2 : wA.heap[D + 1]? = some (.cells #[.int .i64 0] 3 (0, 0)) := by
      rw [← hwA]; have := heap_set_ne (a := ⟨D + 2, 0, none⟩) (heap_set (o := 0) hA1 (.int .i64 0)) (by show D + 1 ≠ D + 2; omega) (.int .i64 0); simpa using this
    have hE2 : wA.heap[D + 2]? = some (.cells #[.int .i64 0] 27 (0, 0)) := by
      rw [← hwA]; have := heap_set (o := 0) (heap_set_ne (a := ⟨D + 1, 0, none⟩) hE1 (by show D + 2 ≠ D + 1; omega) (.int .i64 0)) (.int .i64 0); simpa using this
    have hD2 : wA.heap[D]? = some (.cells #[.slice none 0 0, .slice none 0 0] 26 (0, 0)) := by
      rw [← hwA]; exact heap_set_ne (heap_set_ne hD1 (by show D ≠ D + 1; omega) _) (by show D ≠ D + 2; omega) _
    have hoB : Only (fun k => k = D + 1 ∨ k = D + 2) w1 wA := by
      rw [← hwA]; exact ((Only.refl (fun k => k = D + 1 ∨ k = D + 2) w1).setCell (p := ⟨D + 1, 0, none⟩) (.inl (.inl rfl)) _).setCell (p := ⟨D + 2, 0, none⟩) (.inl (.inr rfl)) _
    have hoA : Only (fun _ => False) w wA := ((HO0.out.trans o1).trans' hoB (fun q hq h => by have := HWD.out; rcases h with h | h <;> omega))
    have hszA : wA.heap.size = w1.heap.size := by rw [← hwA]; simp
    have htrA : TRow wA (.slice (some ⟨g, 0, none⟩) ts.length cg) ts := htr.only hoB (fun a n c e => by injection e with e; injection e with e; subst e; show ¬ (g = D + 1 ∨ g = D + 2); omega)
    obtain ⟨b, hb⟩ : ∃ b, w1.heap.size = b := ⟨_, rfl⟩
    rw [hb] at hszA hgz
    obtain ⟨w2, hw2⟩ : ∃ x, (wA.alloc (.cells #[.slice (some ⟨g, 0, none⟩) ts.length cg, .int .i64 0, .int .i64 0] 78)).alloc (.cells #[.pointer (some ⟨b, 0, none⟩)] 76) = x := ⟨_, rfl⟩
    have oa2 : Only (fun _ => False) wA w2 := by rw [← hw2]; exact ((Only.refl _ wA).alloc _).alloc _
    have hb2 : w2.heap[b]? = some (.cells #[.slice (some ⟨g, 0, none⟩) ts.length cg, .int .i64 0, .int .i64 0] 78 (0, 0)) := by
      rw [← hw2, ← hszA]; exact heap_old (heap_new _ _) _
    have hrb2 : w2.heap[b + 1]? = some (.cells #[.pointer (some ⟨b, 0, none⟩)] 76 (0, 0)) := by
      rw [← hw2]
      have := heap_new (wA.alloc (.cells #[.slice (some ⟨g, 0, none⟩) ts.length cg, .int .i64 0, .int .i64 0] 78)) (.cells #[.pointer (some ⟨b, 0, none⟩)] 76)
      simpa [hszA] using this
    have hrd : RdP w2 b ts ts (24 - ((24 : Nat) : Int)) := ⟨⟨g, 0, cg, 0, hb2, htrA.still oa2, by omega, rfl, by simp⟩, HTE.out, by have := HTL.out; omega⟩
    have hgD2 : D + 2 < g := by omega
    have hi : DocI w D (D + 1) (D + 2) (b + 1) b ts R true w2 := ⟨⟨[], []⟩, ts, .slice none 0 0, .slice none 0 0, (oa2.block D (Array.getElem?_eq_some_iff.1 hD2).1 (fun h => h)).trans hD2, (oa2.block _ (Array.getElem?_eq_some_iff.1 hA2).1 (fun h => h)).trans hA2, (oa2.block _ (Array.getElem?_eq_some_iff.1 hE2).1 (fun h => h)).trans hE2, hrb2, OwnTwo.nil _ _ _ _ _ _, hrd, hoA.trans oa2, by have := HTL.out; simp only [List.length_nil]; omega, fun _ => ⟨ts.length + 1, by omega, HR.out⟩, fun h => by cases h⟩
    obtain ⟨cA, fA⟩ := box1 hA1
    obtain ⟨cE, fE⟩ := box1 hE1
    have cE2 := (box1 hE2).1
    have HI := Lib.hid hi; have HWA := Lib.hid hwA; have HW2 := Lib.hid hw2; have HCE := Lib.hid cE2; have HSZ := Lib.hid hszA
    have hbD : D + 3 < b := by omega
    clear hi hwA hw2 cE2 hszA hD1 hA1 hE1 hA2 hE2 hD2 hoA hoB htrA htr hb hb2 hrb2 hrd oa2 o1 hv eqv hle1 hle2 hgB hgD HTE HTL HR hpos J
    go_upto_region 2 with (fail)
    rw [HWA.out]
    clear cA fA cE fE HWA
    have cE := HCE.out
    go_upto_region 4 with (fail)
    clear cE HCE
    go_upto_region 5 with (fail)
    rw [HSZ.out, HW2.out]
    clear HW2 HSZ
    go_wp2_with fail
    have hi' : DocI w D (D + 1) (D + 1 + 1) (b + 1) b ts R true w2 := HI.out
    obtain ⟨E, hE⟩ : ∃ E, D + 1 + 1 = E := ⟨_, rfl⟩
    rw [hE] at hi' ⊢
    obtain ⟨A, hA⟩ : ∃ A, D + 1 = A := ⟨_, rfl⟩
    rw [hA] at hi' hE ⊢
    obtain ⟨Rb, hRb⟩ : ∃ Rb, b + 1 = Rb := ⟨_, rfl⟩
    rw [hRb] at hi' ⊢
    have l1 : D < A := by omega
    have l2 : A < E := by omega
    have l3 : E < g := by omega
    have l4 : E < b := by omega
    have l5 : b < Rb := by omega
    have HI := Lib.hid hi'
    have hfo : ∀ d rest w' a1 c1 a2 c2, R = .ok d rest → CellsAt w' (fun q => D ≤ q) (docC d) [.slice a1 d.ops.length c1, .slice a2 d.frags.length c2] → Only (fun _ => False) w w' → Q (.returned (.tuple #[.agg #[.slice a1 d.ops.length c1, .slice a2 d.frags.length c2], .int .i64 0, .int .i64 0])) w' := fun d rest w' a1 c1 a2 c2 h1 h2 h3 => by
      rw [← HQ.out, HDP.out, h1]; exact ⟨a1, c1, a2, c2, rfl, by rw [HDD.out]; exact h2, h3⟩
    have hfb : ∀ a c w', R = .bad a c → Only (fun _ => False) w w' → Q (.returned (.tuple #[.agg #[.slice none 0 0, .slice none 0 0], .int .i64 (a : Int), .int .i64 (c : Int)])) w' := fun a c w' h1 h3 => by
      rw [← HQ.out, HDP.out, h1]; exact ⟨rfl, h3⟩
    have FO := Lib.hid hfo; have FB := Lib.hid hfb
    clear hi' hE hA hRb hfo hfb hbD hgD2 HQ HDP HW0 HZ0 HD0 HA0 HE0 HO0
    go_loopw [7] (fun v7 wr => ∃ more : Bool, v7 = .bool more ∧ Hid (DocI w D A E Rb b ts R more wr)) (fun _ wr => ts.length - posOf wr b)
    case atStart => exact ⟨true, rfl, HI⟩
    case round =>
      obtain ⟨more, rfl, hrel⟩ := hrel
      obtain ⟨acc, rest, vO, vF, hD, hA, hE, hRb, hown, hrd, hon, hfew, hyes, hno⟩ := hrel.out
      obtain ⟨aK, cK, eK, gK1, gK2, gK3⟩ := hown.left.form
      obtain ⟨aL, cL, eL, fL1, fL2, fL3⟩ := hown.right.form
      rw [List.length_map] at eL fL1 eK gK1
      subst eL; subst eK
      have gK2n : cK ≤ 9223372036854775807 := by unfold maxLen at gK2; omega
      have fL2n : cL ≤ 9223372036854775807 := by unfold maxLen at fL2; omega
      have hDz : D < wr.heap.size := (Array.getElem?_eq_some_iff.1 hD).1
      have HDr := Lib.hid hD; have HAr := Lib.hid hA; have HEr := Lib.hid hE; have HRr := Lib.hid hRb; have HWr := Lib.hid hown; have HDr' := Lib.hid hrd; have HOr := Lib.hid hon; have HFEW := Lib.hid hfew
      cases more with
      | false =>
        have HNO := Lib.hid (hno rfl)
        clear hD hA hE hRb hown hrd hon hfew hyes hno hrel HI gK2 gK3 fL2 fL3
        obtain ⟨y0, y1, yz⟩ := boxN2 HDr.out
        go_wp2_with ((refine wpList_store_box (o := ⟨none, _, _, _, _, _⟩) rfl 26 (.tmp 2) (.tmp 55) (by rfl) D [.slice aK acc.ops.length cK, .slice aL acc.frags.length cL] [.slice aK acc.ops.length cK, .slice aL acc.frags.length cL] (by rfl) (by rfl) HDr.out (by rfl) (by kernel_rfl) (by intro u hu; simp at hu; rcases hu with rfl | rfl <;> rfl) ?_; intro w9 k1 k2; obtain ⟨cA, fA⟩ := box1 ((k2.block A (Array.getElem?_eq_some_iff.1 HAr.out).1 (by omega)).trans HAr.out); obtain ⟨cE, fE⟩ := box1 ((k2.block E (Array.getElem?_eq_some_iff.1 HEr.out).1 (by omega)).trans HEr.out)))
        have hA9 := (k2.block A (Array.getElem?_eq_some_iff.1 HAr.out).1 (by omega)).trans HAr.out
        have hE9 := (k2.block E (Array.getElem?_eq_some_iff.1 HEr.out).1 (by omega)).trans HEr.out
        have o9 : Only (fun k => k = D ∨ k = A ∨ k = E) wr ((w9.setCell ⟨A, 0, none⟩ (.int .i64 0)).setCell ⟨E, 0, none⟩ (.int .i64 0)) := ((k2.mono (T := fun k => k = D ∨ k = A ∨ k = E) (fun _ _ h => .inl h)).setCell (p := ⟨A, 0, none⟩) (.inl (.inr (.inl rfl))) _).setCell (p := ⟨E, 0, none⟩) (.inl (.inr (.inr rfl))) _
        have hA8 := heap_set_ne (a := ⟨E, 0, none⟩) (heap_set (o := 0) hA9 (.int .i64 0)) (by show A ≠ E; omega) (.int .i64 0)
        have hA8 : ((w9.setCell ⟨A, 0, none⟩ (.int .i64 0)).setCell ⟨E, 0, none⟩ (.int .i64 0)).heap[A]? = some (.cells #[.int .i64 0] 3 (0, 0)) := by simpa using hA8
        have hE8 := heap_set (o := 0) (heap_set_ne (a := ⟨A, 0, none⟩) hE9 (by show E ≠ A; omega) (.int .i64 0)) (.int .i64 0)
        have hE8 : ((w9.setCell ⟨A, 0, none⟩ (.int .i64 0)).setCell ⟨E, 0, none⟩ (.int .i64 0)).heap[E]? = some (.cells #[.int .i64 0] 27 (0, 0)) := by simpa using hE8
        have hD8 := heap_set_ne (a := ⟨E, 0, none⟩) (heap_set_ne (a := ⟨A, 0, none⟩) k1 (by show D ≠ A; omega) (.int .i64 0)) (by show D ≠ E; omega) (.int .i64 0)
        obtain ⟨x0, x1, -⟩ := boxN2 hD8
        obtain ⟨x2, -⟩ := box1 hA8
        obtain ⟨x3, -⟩ := box1 hE8
        have hO8 : Only (fun _ => False) w ((w9.setCell ⟨A, 0, none⟩ (.int .i64 0)).setCell ⟨E, 0, none⟩ (.int .i64 0)) := HOr.out.trans' o9 (fun q hq h => by have := HWD.out; rcases h with h | h | h <;> omega)
        have hC8 : CellsAt ((w9.setCell ⟨A, 0, none⟩ (.int .i64 0)).setCell ⟨E, 0, none⟩ (.int .i64 0)) (fun q => D ≤ q) (docC acc) [.slice aK acc.ops.length cK, .slice aL acc.frags.length cL] :=
          CellsAt.cons (CellAt.weaken (fun q _ h => by have h : Rb + 1 ≤ q := h; show D ≤ q; omega) _ _ (OwnRow.cell (HWr.out.left.only o9 (fun k h1 h2 e => by rcases e with e | e | e <;> omega)))) (CellsAt.cons (CellAt.weaken (fun q _ h => by have h : Rb + 1 ≤ q := h; show D ≤ q; omega) _ _ (OwnRow.cell (HWr.out.right.only o9 (fun k h1 h2 e => by rcases e with e | e | e <;> omega)))) (CellsAt.nil _ _))
        have hfin := FO.out _ _ _ _ _ _ _ HNO.out hC8 hO8
        exact door2_ok hE8 ⟨_, by simp [results, Tryd.results14, go_sem, x0, x1, x2, x3], hfin⟩
      | true =>
        obtain ⟨n, hn, heq⟩ := hyes rfl
        obtain ⟨n, rfl⟩ : ∃ m, n = m + 1 := ⟨n - 1, by omega⟩
        rw [docF] at heq
        have hpos := hrd.pos
        have I := Lib.hid (is_any b ts rest _ [123] wr hrd)
        have HEQ := Lib.hid heq; have HN := Lib.hid hn; have HPOS := Lib.hid hpos
        clear hD hA hE hRb hown hrd hon hfew hyes hno hrel HI gK2 gK3 fL2 fL3 heq hn hpos
        obtain ⟨cR, fR⟩ := box1 HRr.out
        obtain ⟨bb, hbb⟩ : ∃ x, isS [123] rest = x := ⟨_, rfl⟩
        rw [hbb] at I
        have HBB := Lib.hid hbb; clear hbb
        cases bb with
        | true =>
          go_wp2_with fail
          refine I.out.mono ?_
          rintro e w20 ⟨rfl, o20⟩
          have HD20 := Lib.hid ((o20.block D (Array.getElem?_eq_some_iff.1 HDr.out).1 (fun h => h)).trans HDr.out)
          have HA20 := Lib.hid ((o20.block A (Array.getElem?_eq_some_iff.1 HAr.out).1 (fun h => h)).trans HAr.out)
          have HE20 := Lib.hid ((o20.block E (Array.getElem?_eq_some_iff.1 HEr.out).1 (fun h => h)).trans HEr.out)
          have HR20 := Lib.hid ((o20.block Rb (Array.getElem?_eq_some_iff.1 HRr.out).1 (fun h => h)).trans HRr.out)
          have HW20 := Lib.hid (HWr.out.only o20 (fun k h1 h2 e => by exact e))
          have HO20 := Lib.hid (HOr.out.trans' o20 (fun q hq h => by exact h))
          have H20 := Lib.hid (HDr'.out.still o20)
          obtain ⟨aK20, cK20, eK, -, -, gK3⟩ := HW20.out.left.form
          obtain ⟨aL20, cL20, eL, -, -, fL3⟩ := HW20.out.right.form
          injection eK with eK1 eK2 eK3
          injection eL with eL1 eL2 eL3
          subst eK1; subst eK3; subst eL1; subst eL3
          clear eK2 eL2
          have HFK20 := Lib.hid gK3; have HFL20 := Lib.hid fL3; clear gK3 fL3
          have hz20 : D < w20.heap.size := (Array.getElem?_eq_some_iff.1 HD20.out).1
          clear HDr HAr HEr HRr HWr HDr' HOr o20 hDz cR fR I
          cases hq : setP 24 rest with
          | bad a c =>
            have J : ∀ wx, Only (fun _ => False) w20 wx → Calls Tryd.prog 28 #[.pointer (some ⟨b, 0, none⟩)] wx (Ans wx b ts (24 - ((24 : Nat) : Int)) (rowP wx.heap.size 7 selC) (.bad a c)) := fun wx o => by
              have := set_any 24 b ts rest wx (by decide) (H20.out.still o)
              rw [hq] at this; exact this
            have J := Lib.hid J
            have HEB := Lib.hid (HEQ.out.symm.trans (bind_bad ((if_pos HBB.out).trans (bind_bad hq)))); clear hq
            have hcz := HCZ.out _ _ HEB.out
            obtain ⟨cR, fR⟩ := box1 HR20.out
            obtain ⟨y0, y1, yz⟩ := boxN2 HD20.out
            clear cR fR y0 y1 yz
            go_upto_region 12 with (fail)
            obtain ⟨PP, hPP⟩ : ∃ PP : Exit → Act → World → Prop, ∀ e av wv, PP e av wv ↔ (e = Exit.panic (faultV c) ∧ av.defers = [dfC E, dfD E Rb D A] ∧ av.tmps[2]? = some (.pointer (some ⟨D, 0, none⟩)) ∧ av.tmps[3]? = some (.pointer (some ⟨A, 0, none⟩)) ∧ av.tmps[4]? = some (.pointer (some ⟨E, 0, none⟩)) ∧ Only (fun k => k = b) w20 wv ∧ ∃ (r'' : List Tok) (dp' : Int), RdP wv b ts r'' dp' ∧ atT r'' = a) := ⟨_, fun _ _ _ => Iff.rfl⟩
            refine Code.wp_mono (Q := PP) ?_ ?_
            · intro e av w8 hh
              obtain ⟨rfl, hdf, t2, t3, t4, o5, r'', dp', h5, ha⟩ := (hPP _ _ _).1 hh
              obtain ⟨tm, df⟩ := av
              have hdf : df = [dfC E, dfD E Rb D A] := hdf
              subst hdf
              have hD8 := (o5.block D (Array.getElem?_eq_some_iff.1 HD20.out).1 (by omega)).trans HD20.out
              have hA8 := (o5.block A (Array.getElem?_eq_some_iff.1 HA20.out).1 (by omega)).trans HA20.out
              have hE8 := (o5.block E (Array.getElem?_eq_some_iff.1 HE20.out).1 (by omega)).trans HE20.out
              have hR8 := (o5.block Rb (Array.getElem?_eq_some_iff.1 HR20.out).1 (by omega)).trans HR20.out
              refine door2_bad (D := D) (A := A) (E := E) (Rb := Rb) (b := b) hcz hD8 hA8 hE8 hR8 h5 l1 l2 l4 l5 (slices_no _ _ _ _ _ _) (fun w' k1 k2 k3 k4 => ?_)
              obtain ⟨x0, x1, -⟩ := boxN2 k1
              obtain ⟨x2, -⟩ := box1 k2
              obtain ⟨x3, -⟩ := box1 k3
              rw [ha] at x2
              have t2 : tm[2]? = _ := t2
              have t3 : tm[3]? = _ := t3
              have t4 : tm[4]? = _ := t4
              exact ⟨_, by simp [results, Tryd.results14, go_sem, t2, t3, t4, x0, x1, x2, x3], FB.out _ _ w' HEB.out ((HO20.out.trans' o5 (fun q hq h => by have := HWD.out; have h : q = b := h; omega)).trans' k4 (fun q hq h => by have := HWD.out; rcases h with h | h | h <;> omega))⟩
            refine wp_region_dies 8 (by kernel_rfl) rfl (by kernel_rfl) [some 37, some 38, some 39, some 40, some 41, some 42, some 43, some 44] rfl rfl 3 (by decide) [4, 5, 6, 7, 8] (by kernel_rfl) (fun _ => False) [(fun v _ => v = (.pointer (some ⟨D, 0, none⟩))), (fun v _ => v = (.slice aK acc.ops.length cK)), (fun v _ => v = (.pointer (some ⟨b, 0, none⟩))), (fun _ _ => True), (fun _ _ => True), (fun _ _ => True), (fun _ _ => True), (fun _ _ => True)] rfl ⟨Stable.is _ _, Stable.is _ _, Stable.is _ _, Stable.any _, Stable.any _, Stable.any _, Stable.any _, Stable.any _, trivial⟩ [0, 0, 0, 1, 2, 2, 2, 2] (by decide) ⟨?_, ?_, ?_, ?_, trivial⟩
            · intro x wx ox hN TT HTT
              clear hN
              unfold StepTo
              simp only [putAll, Act.put, List.setIfInBounds_toArray, List.set_cons_succ, List.set_cons_zero]
              go_wp2_with fail
              exact ⟨rfl, _, rfl, HTT.out _ _ (rfl) (Only.refl _ _)⟩
            · intro x wx ox hN TT HTT
              have r37 : x 0 = (.pointer (some ⟨D, 0, none⟩)) := hN.1 rfl
              clear hN
              unfold StepTo
              simp only [putAll, Act.put, List.setIfInBounds_toArray, List.set_cons_succ, List.set_cons_zero, r37]
              clear r37
              have hx := (ox.block D (Array.getElem?_eq_some_iff.1 HD20.out).1 (fun h => h)).trans HD20.out
              obtain ⟨y0, y1, yz⟩ := boxN2 hx
              clear hx
              go_wp2_with fail
              exact ⟨rfl, _, rfl, HTT.out _ _ (rfl) (Only.refl _ _)⟩
            · intro x wx ox hN TT HTT
              clear hN
              unfold StepTo
              simp only [putAll, Act.put, List.setIfInBounds_toArray, List.set_cons_succ, List.set_cons_zero]
              have hx := (ox.block Rb (Array.getElem?_eq_some_iff.1 HR20.out).1 (fun h => h)).trans HR20.out
              obtain ⟨cR, fR⟩ := box1 hx
              clear hx
              go_wp2_with fail
              exact ⟨rfl, _, rfl, HTT.out _ _ (rfl) (Only.refl _ _)⟩
            · intro x wx ox hN
              have r39 : x 2 = (.pointer (some ⟨b, 0, none⟩)) := hN.1 rfl
              clear hN
              unfold StepX
              simp only [putAll, Act.put, List.setIfInBounds_toArray, List.set_cons_succ, List.set_cons_zero, r39]
              clear r39
              have ht := J.out wx (((Only.refl _ w20).drew).trans ox)
              have HT := Lib.hid ht; have HOX := Lib.hid ox; clear ht ox
              go_wp2_with fail
              refine HT.out.mono ?_
              rintro e w8 ⟨rfl, ⟨r'', dp', h5, ha, k1, k2⟩, o5⟩
              have o5 : Only (fun k => k = b) w20 w8 := ((((Only.refl _ w20).drew).trans HOX.out).mono (T := fun k => k = b) (fun _ _ h => h.elim)).trans o5
              exact .inr ⟨by simp, ⟨rfl, rfl⟩, o5, r'', ⟨dp', h5⟩, ha⟩
          | ok sub r1 =>
            have J : ∀ wx, Only (fun _ => False) w20 wx → Calls Tryd.prog 28 #[.pointer (some ⟨b, 0, none⟩)] wx (Ans wx b ts (24 - ((24 : Nat) : Int)) (rowP wx.heap.size 7 selC) (.ok sub r1)) := fun wx o => by
              have := set_any 24 b ts rest wx (by decide) (H20.out.still o)
              rw [hq] at this; exact this
            have J := Lib.hid J
            have hdef : defP acc rest = .ok ⟨acc.ops ++ [⟨false, [], [], sub⟩], acc.frags⟩ r1 := (if_pos HBB.out).trans (bind_ok hq)
            have hlt := defP_takes acc _ _ _ hdef
            have hnew := (bind_ok hdef).symm.trans HEQ.out
            have HLT := Lib.hid hlt; have HNEW := Lib.hid hnew
            clear hq hdef hlt hnew
            go_upto_region 12 with (fail)
            refine wp_region_stepsM 8 (by kernel_rfl) rfl (by kernel_rfl) [some 37, some 38, some 39, some 40, some 41, some 42, some 43, some 44] rfl rfl 3 6 (fun q => q = b) (fun q => (Value.slice aK acc.ops.length cK).ownBlock = some q) [4, 5, 6, 7, 8] (by kernel_rfl) [2] (by kernel_rfl) (by decide) (by decide) (.inr ⟨by decide, by decide⟩) [(fun v _ => v = (.pointer (some ⟨D, 0, none⟩))), (fun v _ => v = (.slice aK acc.ops.length cK)), (fun v _ => v = (.pointer (some ⟨b, 0, none⟩))), (fun v w1 => (∃ as' cs', v = .slice as' sub.length cs' ∧ CellAt w1 (fun q => w20.heap.size ≤ q) (.row 7 (sub.map selC)) (.slice as' sub.length cs')) ∧ RdP w1 b ts r1 (24 - ((24 : Nat) : Int))), (fun v w1 => ∃ as' cs', v = .agg #[.bool false, .string ⟨#[]⟩, .slice none 0 0, .slice as' sub.length cs'] ∧ CellAt w1 (fun q => w20.heap.size ≤ q) (.row 7 (sub.map selC)) (.slice as' sub.length cs') ∧ RdP w1 b ts r1 (24 - ((24 : Nat) : Int))), (fun v w1 => ∃ (g : Nat) (cs : List Value), v = .slice (some ⟨g, 0, none⟩) 1 1 ∧ w20.heap.size ≤ g ∧ g < w1.heap.size ∧ cs.length = 4 ∧ w1.rangeAt g 0 cs ∧ CellsAt w1 (fun q => w20.heap.size ≤ q) (opC ⟨false, [], [], sub⟩) cs ∧ RdP w1 b ts r1 (24 - ((24 : Nat) : Int))), (fun v w1 => OwnTwo w1 (Rb + 1) 39 53 4 3 v (.slice aL acc.frags.length cL) (acc.ops.map opC ++ [opC ⟨false, [], [], sub⟩]) (acc.frags.map frC) ∧ (∀ q, v.ownBlock = some q → (Value.slice aK acc.ops.length cK).ownBlock = some q ∨ w20.heap.size ≤ q) ∧ RdP w1 b ts r1 (24 - ((24 : Nat) : Int))), (fun v _ => v = (.pointer (some ⟨D, 0, none⟩)))] rfl ⟨?_, ?_, ?_, ?_, ?_, ?_, ?_, ?_, trivial⟩ _ rfl ⟨?_, ?_, ?_, ?_, ?_, ?_, ?_, ?_, trivial⟩ ?_
            · exact Stable.is _ _
            · exact Stable.is _ _
            · exact Stable.is _ _
            · intro v w1 w2 h ho
              have ho : Only (fun q => (Value.slice aK acc.ops.length cK).ownBlock = some q) w1 w2 := ho
              exact (by obtain ⟨⟨as', cs', e1, e2⟩, e3⟩ := h; exact ⟨⟨as', cs', e1, CellAt.only ho (fun q hq hk => by have := (HFK20.out q hk).2; have hq : w20.heap.size ≤ q := hq; omega) _ _ e2⟩, e3.only ho (fun k hk h => by have := (HFK20.out k h).1; omega)⟩)
            · intro v w1 w2 h ho
              have ho : Only (fun q => (Value.slice aK acc.ops.length cK).ownBlock = some q) w1 w2 := ho
              exact (by obtain ⟨as', cs', e1, e2, e3⟩ := h; exact ⟨as', cs', e1, CellAt.only ho (fun q hq hk => by have := (HFK20.out q hk).2; have hq : w20.heap.size ≤ q := hq; omega) _ _ e2, e3.only ho (fun k hk h => by have := (HFK20.out k h).1; omega)⟩)
            · intro v w1 w2 h ho
              have ho : Only (fun q => (Value.slice aK acc.ops.length cK).ownBlock = some q) w1 w2 := ho
              exact (by obtain ⟨g, cs, e1, e2, e3, e4, e5, e6, e7⟩ := h; have hng : ¬ (Value.slice aK acc.ops.length cK).ownBlock = some g := fun hk => (by have := (HFK20.out g hk).2; omega); exact ⟨g, cs, e1, e2, Nat.lt_of_lt_of_le e3 ho.size, e4, range_keep e5 e3 ho hng, CellsAt.only ho (fun q hq hk => by have := (HFK20.out q hk).2; have hq : w20.heap.size ≤ q := hq; omega) _ _ e6, e7.only ho (fun k hk h => by have := (HFK20.out k h).1; omega)⟩)
            · intro v w1 w2 h ho
              have ho : Only (fun _ => False) w1 w2 := ho
              exact (by obtain ⟨e1, e2, e3⟩ := h; exact ⟨e1.only ho (fun _ _ _ h => h), e2, e3.still ho⟩)
            · exact Stable.is _ _
            · intro x wx ox hN TT HTT
              have ox : Only (fun q => (fun q => q = b) q ∨ (fun q => (Value.slice aK acc.ops.length cK).ownBlock = some q) q) _ wx := ox
              clear hN
              unfold StepTo
              simp only [putAll, Act.put, List.setIfInBounds_toArray, List.set_cons_succ, List.set_cons_zero]
              go_wp2_with fail
              exact ⟨rfl, _, rfl, HTT.out _ _ (rfl) (Only.refl _ _)⟩
            · intro x wx ox hN TT HTT
              have ox : Only (fun q => (fun q => q = b) q ∨ (fun q => (Value.slice aK acc.ops.length cK).ownBlock = some q) q) _ wx := ox
              have r37 : x 0 = (.pointer (some ⟨D, 0, none⟩)) := hN.1 rfl
              clear hN
              unfold StepTo
              simp only [putAll, Act.put, List.setIfInBounds_toArray, List.set_cons_succ, List.set_cons_zero, r37]
              clear r37
              have hx := (ox.block D (Array.getElem?_eq_some_iff.1 HD20.out).1 (fun h => by rcases h with h | h; have h : D = b := h; omega; (have := (HFK20.out _ h).1; omega))).trans HD20.out
              obtain ⟨y0, y1, yz⟩ := boxN2 hx
              clear hx
              go_wp2_with fail
              exact ⟨rfl, _, rfl, HTT.out _ _ (rfl) (Only.refl _ _)⟩
            · intro x wx ox hN TT HTT
              have ox : Only (fun _ => False) _ wx := ox
              clear hN
              unfold StepTo
              simp only [putAll, Act.put, List.setIfInBounds_toArray, List.set_cons_succ, List.set_cons_zero]
              have hx := (ox.block Rb (Array.getElem?_eq_some_iff.1 HR20.out).1 (fun h => h)).trans HR20.out
              obtain ⟨cR, fR⟩ := box1 hx
              clear hx
              go_wp2_with fail
              exact ⟨rfl, _, rfl, HTT.out _ _ (rfl) (Only.refl _ _)⟩
            · intro x wx ox hN TT HTT
              have ox : Only (fun _ => False) _ wx := ox
              have r39 : x 2 = (.pointer (some ⟨b, 0, none⟩)) := hN.1 rfl
              clear hN
              unfold StepTo
              simp only [putAll, Act.put, List.setIfInBounds_toArray, List.set_cons_succ, List.set_cons_zero, r39]
              clear r39
              have hsl : w20.heap.size ≤ wx.heap.size := ox.size
              have ht := J.out wx (((Only.refl _ w20).drew).trans ox)
              have HT := Lib.hid ht; have HSL := Lib.hid hsl; clear ht hsl
              go_wp2_with fail
              refine HT.out.mono ?_
              rintro e w6 ⟨v6, rfl, hv6, h6, o6⟩
              obtain ⟨as', cs', er⟩ := row_form hv6
              rw [List.length_map] at er
              subst er
              have H6 := Lib.hid h6; have O6 := Lib.hid o6; have HV6 := Lib.hid hv6; clear h6 o6 hv6
              go_wp2_with fail
              exact ⟨rfl, _, rfl, HTT.out _ _ (⟨⟨as', cs', rfl, CellAt.weaken (fun q _ h => Nat.le_trans HSL.out h) _ _ HV6.out⟩, H6.out⟩) (O6.out)⟩
            · intro x wx ox hN TT HTT
              have ox : Only (fun q => (fun q => q = b) q ∨ (fun q => (Value.slice aK acc.ops.length cK).ownBlock = some q) q) _ wx := ox
              have r40 : (fun (v : Value) (w1 : World) => (∃ as' cs', v = .slice as' sub.length cs' ∧ CellAt w1 (fun q => w20.heap.size ≤ q) (.row 7 (sub.map selC)) (.slice as' sub.length cs')) ∧ RdP w1 b ts r1 (24 - ((24 : Nat) : Int))) (x 3) wx := hN.1 rfl
              clear hN
              unfold StepTo
              simp only [putAll, Act.put, List.setIfInBounds_toArray, List.set_cons_succ, List.set_cons_zero]
              obtain ⟨⟨as', cs', e1, e2⟩, e3⟩ := r40
              simp only [e1]
              have E2 := Lib.hid e2; have E3 := Lib.hid e3
              clear e1 e2 e3
              go_wp2_with fail
              exact ⟨rfl, _, rfl, HTT.out _ _ (⟨as', cs', rfl, E2.out, E3.out⟩) (Only.refl _ _)⟩
            · intro x wx ox hN TT HTT
              have ox : Only (fun q => (fun q => q = b) q ∨ (fun q => (Value.slice aK acc.ops.length cK).ownBlock = some q) q) _ wx := ox
              have r41 : (fun (v : Value) (w1 : World) => ∃ as' cs', v = .agg #[.bool false, .string ⟨#[]⟩, .slice none 0 0, .slice as' sub.length cs'] ∧ CellAt w1 (fun q => w20.heap.size ≤ q) (.row 7 (sub.map selC)) (.slice as' sub.length cs') ∧ RdP w1 b ts r1 (24 - ((24 : Nat) : Int))) (x 4) wx := hN.1 rfl
              clear hN
              unfold StepTo
              simp only [putAll, Act.put, List.setIfInBounds_toArray, List.set_cons_succ, List.set_cons_zero]
              obtain ⟨as', cs', e1, e2, e3⟩ := r41
              have e2 : CellsAt wx (fun q => w20.heap.size ≤ q) (opC ⟨false, [], [], sub⟩) [.bool false, .string ⟨#[]⟩, .slice none 0 0, .slice as' sub.length cs'] := CellsAt.lit rfl (CellsAt.lit rfl (CellsAt.cons (CellAt.nilRow _ _ _) (CellsAt.cons e2 (CellsAt.nil _ _))))
              simp only [e1]
              have hn := heap_new wx (.cells #[.bool false, .string ⟨#[]⟩, .slice none 0 0, .slice as' sub.length cs'] 39)
              have on := (Only.refl (fun _ => False) wx).alloc (.cells #[.bool false, .string ⟨#[]⟩, .slice none 0 0, .slice as' sub.length cs'] 39)
              have hgl : w20.heap.size ≤ wx.heap.size := ox.size
              have H3 := Lib.hid e3; have HNB := Lib.hid hn; have ON := Lib.hid on; have HGL2 := Lib.hid hgl; have HV2 := Lib.hid e2; clear e1 e2 e3 hn on hgl
              go_wp2_with fail
              exact ⟨rfl, _, rfl, HTT.out _ _ (⟨wx.heap.size, _, rfl, HGL2.out, by simp, rfl, range_of_block HNB.out, CellsAt.only ON.out (fun _ _ h => h) _ _ HV2.out, H3.out.still ON.out⟩) (ON.out)⟩
            · intro x wx ox hN TT HTT
              have ox : Only (fun q => q = b) _ wx := ox
              have r38 : x 1 = (.slice aK acc.ops.length cK) := hN.1 rfl
              have r42 : (fun (v : Value) (w1 : World) => ∃ (g : Nat) (cs : List Value), v = .slice (some ⟨g, 0, none⟩) 1 1 ∧ w20.heap.size ≤ g ∧ g < w1.heap.size ∧ cs.length = 4 ∧ w1.rangeAt g 0 cs ∧ CellsAt w1 (fun q => w20.heap.size ≤ q) (opC ⟨false, [], [], sub⟩) cs ∧ RdP w1 b ts r1 (24 - ((24 : Nat) : Int))) (x 5) wx := hN.2.1 rfl
              have r40 : (fun (v : Value) (w1 : World) => (∃ as' cs', v = .slice as' sub.length cs' ∧ CellAt w1 (fun q => w20.heap.size ≤ q) (.row 7 (sub.map selC)) (.slice as' sub.length cs')) ∧ RdP w1 b ts r1 (24 - ((24 : Nat) : Int))) (x 3) wx := hN.2.2.1 rfl
              clear hN
              unfold StepTo
              simp only [putAll, Act.put, List.setIfInBounds_toArray, List.set_cons_succ, List.set_cons_zero, r38]
              clear r38
              obtain ⟨g, cs, e1, e2, e3, e4, e5, e6, e7⟩ := r42
              simp only [e1]
              have htw := (HW20.out.only (((Only.refl _ w20).drew).trans ox) (fun k h1 h2 e => by have e : k = b := e; omega)).swap
              obtain ⟨xs, p1, p2⟩ := htw.l
              have hys : ∀ j u, cs[j]? = some u → wx.cell? ((⟨g, 0, none⟩ : Addr).add j) = some u := fun j u hu => by rw [addr_add]; exact e5 j u hu
              have hone : ∀ u ∈ cs, u.oneCell' = true := CellsAt.one e6
              have hsl : w20.heap.size ≤ wx.heap.size := ox.size
              have hkb : (acc.ops.length + 1) ≤ 1000001 := by have h2 := HFEW.out; omega
              have HTW := Lib.hid htw; have HP1 := Lib.hid p1; have HP2 := Lib.hid p2; have HYS := Lib.hid hys; have HSL := Lib.hid hsl; have HKB2 := Lib.hid hkb; have H6 := Lib.hid e7; have HV6 := Lib.hid e6; have HONE := Lib.hid hone; clear p1 p2 hys hsl hkb e7 e6 e5 e1 hone htw
              rw [List.length_map] at HP1
              go_wp2_with ((refine wpList_append_own2 (o := ⟨some 43, _, _, _, _, _⟩) rfl (.tmp 38) (.tmp 42) 23 39 (by rfl) Tryd.underlying23 infoO rfl (by decide) (Rb + 1) (.slice aK acc.ops.length cK) acc.ops.length 1 1 xs cs ⟨g, 0, none⟩ (by rfl) (by rfl) HP1.out (by rw [e4]) HYS.out HONE.out (by have := HKB2.out; unfold maxLen; omega) (by have := HKB2.out; omega) (by have := HSL.out; have := (Array.getElem?_eq_some_iff.1 HR20.out).1; omega) ?_; intro v' w9 q1 q2 q3))
              have hv8 : CellsAt wx (fun q => (Rb + 1 ≤ q ∧ (Value.slice aK acc.ops.length cK).ownBlock ≠ some q ∧ q < wx.heap.size) ∧ (Value.slice aL acc.frags.length cL).ownBlock ≠ some q) (opC ⟨false, [], [], sub⟩) cs := CellsAt.weaken (fun q hq h => by have h : w20.heap.size ≤ q := h; have := (Array.getElem?_eq_some_iff.1 HR20.out).1; exact ⟨⟨by omega, fun hv => (by have := (HFK20.out q hv).2; omega), hq⟩, fun hv => (by have := (HFL20.out q hv).2; omega)⟩) _ _ HV6.out
              have hp1 := HP1.out; have hp2 := HP2.out
              have hrow := OwnTwo.append (r := opC ⟨false, [], [], sub⟩) HTW.out (by rw [List.length_map]; exact hp1) hp2 e4 hv8 (by rw [List.length_map]; exact q1) q2 q3
              exact ⟨rfl, _, rfl, HTT.out _ _ (⟨hrow.swap, fun q hq => (q3 q hq).imp id (fun h => Nat.le_trans HSL.out h), H6.out.only q2 (fun k hk h => by have := (HFK20.out k h).1; omega)⟩) (q2)⟩
            · intro x wx ox hN TT HTT
              have ox : Only (fun q => (fun q => q = b) q ∨ (fun q => (Value.slice aK acc.ops.length cK).ownBlock = some q) q) _ wx := ox
              have r37 : x 0 = (.pointer (some ⟨D, 0, none⟩)) := hN.1 rfl
              have r38 : x 1 = (.slice aK acc.ops.length cK) := hN.2.1 rfl
              have r39 : x 2 = (.pointer (some ⟨b, 0, none⟩)) := hN.2.2.1 rfl
              have r40 : (fun (v : Value) (w1 : World) => (∃ as' cs', v = .slice as' sub.length cs' ∧ CellAt w1 (fun q => w20.heap.size ≤ q) (.row 7 (sub.map selC)) (.slice as' sub.length cs')) ∧ RdP w1 b ts r1 (24 - ((24 : Nat) : Int))) (x 3) wx := hN.2.2.2.1 rfl
              have r41 : (fun (v : Value) (w1 : World) => ∃ as' cs', v = .agg #[.bool false, .string ⟨#[]⟩, .slice none 0 0, .slice as' sub.length cs'] ∧ CellAt w1 (fun q => w20.heap.size ≤ q) (.row 7 (sub.map selC)) (.slice as' sub.length cs') ∧ RdP w1 b ts r1 (24 - ((24 : Nat) : Int))) (x 4) wx := hN.2.2.2.2.1 rfl
              have r42 : (fun (v : Value) (w1 : World) => ∃ (g : Nat) (cs : List Value), v = .slice (some ⟨g, 0, none⟩) 1 1 ∧ w20.heap.size ≤ g ∧ g < w1.heap.size ∧ cs.length = 4 ∧ w1.rangeAt g 0 cs ∧ CellsAt w1 (fun q => w20.heap.size ≤ q) (opC ⟨false, [], [], sub⟩) cs ∧ RdP w1 b ts r1 (24 - ((24 : Nat) : Int))) (x 5) wx := hN.2.2.2.2.2.1 rfl
              have r43 : (fun (v : Value) (w1 : World) => OwnTwo w1 (Rb + 1) 39 53 4 3 v (.slice aL acc.frags.length cL) (acc.ops.map opC ++ [opC ⟨false, [], [], sub⟩]) (acc.frags.map frC) ∧ (∀ q, v.ownBlock = some q → (Value.slice aK acc.ops.length cK).ownBlock = some q ∨ w20.heap.size ≤ q) ∧ RdP w1 b ts r1 (24 - ((24 : Nat) : Int))) (x 6) wx := hN.2.2.2.2.2.2.1 rfl
              clear hN
              unfold StepTo
              simp only [putAll, Act.put, List.setIfInBounds_toArray, List.set_cons_succ, List.set_cons_zero, r37, r38, r39]
              clear r37 r38 r39
              go_wp2_with fail
              exact ⟨rfl, _, rfl, HTT.out _ _ (rfl) (Only.refl _ _)⟩
            intro xz wxz oxz hN
            have oxz : Only (fun q => (fun q => q = b) q ∨ (fun q => (Value.slice aK acc.ops.length cK).ownBlock = some q) q) _ wxz := oxz
            have r37 : xz 0 = (.pointer (some ⟨D, 0, none⟩)) := hN.1
            have r38 : xz 1 = (.slice aK acc.ops.length cK) := hN.2.1
            have r39 : xz 2 = (.pointer (some ⟨b, 0, none⟩)) := hN.2.2.1
            have r40 : (fun (v : Value) (w1 : World) => (∃ as' cs', v = .slice as' sub.length cs' ∧ CellAt w1 (fun q => w20.heap.size ≤ q) (.row 7 (sub.map selC)) (.slice as' sub.length cs')) ∧ RdP w1 b ts r1 (24 - ((24 : Nat) : Int))) (xz 3) wxz := hN.2.2.2.1
            have r41 : (fun (v : Value) (w1 : World) => ∃ as' cs', v = .agg #[.bool false, .string ⟨#[]⟩, .slice none 0 0, .slice as' sub.length cs'] ∧ CellAt w1 (fun q => w20.heap.size ≤ q) (.row 7 (sub.map selC)) (.slice as' sub.length cs') ∧ RdP w1 b ts r1 (24 - ((24 : Nat) : Int))) (xz 4) wxz := hN.2.2.2.2.1
            have r42 : (fun (v : Value) (w1 : World) => ∃ (g : Nat) (cs : List Value), v = .slice (some ⟨g, 0, none⟩) 1 1 ∧ w20.heap.size ≤ g ∧ g < w1.heap.size ∧ cs.length = 4 ∧ w1.rangeAt g 0 cs ∧ CellsAt w1 (fun q => w20.heap.size ≤ q) (opC ⟨false, [], [], sub⟩) cs ∧ RdP w1 b ts r1 (24 - ((24 : Nat) : Int))) (xz 5) wxz := hN.2.2.2.2.2.1
            have r43 : (fun (v : Value) (w1 : World) => OwnTwo w1 (Rb + 1) 39 53 4 3 v (.slice aL acc.frags.length cL) (acc.ops.map opC ++ [opC ⟨false, [], [], sub⟩]) (acc.frags.map frC) ∧ (∀ q, v.ownBlock = some q → (Value.slice aK acc.ops.length cK).ownBlock = some q ∨ w20.heap.size ≤ q) ∧ RdP w1 b ts r1 (24 - ((24 : Nat) : Int))) (xz 6) wxz := hN.2.2.2.2.2.2.1
            have r44 : xz 7 = (.pointer (some ⟨D, 0, none⟩)) := hN.2.2.2.2.2.2.2.1
            clear hN
            simp only [putAll, Act.put, List.setIfInBounds_toArray, List.set_cons_succ, List.set_cons_zero, r37, r38, r39, r44]
            clear r37 r38 r39 r44
            obtain ⟨q1, q2, q5⟩ := r43
            obtain ⟨aN, cN, eN, gL1, gL2, gL3⟩ := q1.left.form
            rw [List.length_append, List.length_map, List.length_singleton] at eN gL1
            rw [eN] at q1 q2 gL3 ⊢
            have gN2 : cN ≤ 9223372036854775807 := by unfold maxLen at gL2; omega
            have hmv : ∀ k, k ≤ Rb → k ≠ b → k < w20.heap.size → wxz.heap[k]? = w20.heap[k]? := fun k hk hkb hks => oxz.block k hks (fun h => by rcases h with h | h; exact hkb h; (have := (HFK20.out _ h).1; omega))
            have hDb := (hmv D (by omega) (by omega) (Array.getElem?_eq_some_iff.1 HD20.out).1).trans HD20.out
            have hAb := (hmv A (by omega) (by omega) (Array.getElem?_eq_some_iff.1 HA20.out).1).trans HA20.out
            have hEb := (hmv E (by omega) (by omega) (Array.getElem?_eq_some_iff.1 HE20.out).1).trans HE20.out
            have hRb := (hmv Rb (by omega) (by omega) (Array.getElem?_eq_some_iff.1 HR20.out).1).trans HR20.out
            have hD6 := heap_set (o := 0) hDb (.slice aN (acc.ops.length + 1) cN)
            have hD6 : (wxz.setCell ⟨D, 0, none⟩ (.slice aN (acc.ops.length + 1) cN)).heap[D]? = some (.cells #[.slice aN (acc.ops.length + 1) cN, .slice aL acc.frags.length cL] 26 (0, 0)) := by simpa using hD6
            have o6 := (Only.refl (fun k => k = D) wxz).setCell (p := ⟨D, 0, none⟩) (.inl rfl) (.slice aN (acc.ops.length + 1) cN)
            have hA6 := (o6.block A (Array.getElem?_eq_some_iff.1 hAb).1 (by omega)).trans hAb
            have hE6 := (o6.block E (Array.getElem?_eq_some_iff.1 hEb).1 (by omega)).trans hEb
            have hR6 := (o6.block Rb (Array.getElem?_eq_some_iff.1 hRb).1 (by omega)).trans hRb
            have hrd6 : RdP (wxz.setCell ⟨D, 0, none⟩ (.slice aN (acc.ops.length + 1) cN)) b ts r1 (24 - ((24 : Nat) : Int)) := rdP_old q5 o6 (by omega) (fun g' off n c' hcc => q5.apart hDb (slices_no _ _ _ _ _ _) hcc)
            have hob : Only (fun q => q = b ∨ q = D ∨ (Value.slice aK acc.ops.length cK).ownBlock = some q) w20 (wxz.setCell ⟨D, 0, none⟩ (.slice aN (acc.ops.length + 1) cN)) := ((((Only.refl _ w20).drew).trans' oxz (fun q _ h => h.imp id .inr)).trans' o6 (fun q _ h => .inr (.inl h)))
            have hW6 := q1.only o6 (fun k h1 h2 e => by have e : k = D := e; omega)
            have hO6 : Only (fun _ => False) w (wxz.setCell ⟨D, 0, none⟩ (.slice aN (acc.ops.length + 1) cN)) := HO20.out.trans' hob (fun q hq h => by have := HWD.out; rcases h with h | h | h; omega; omega; (have := (HFK20.out q h).1; omega))
            obtain ⟨y0, y1, yz⟩ := boxN2 hDb
            obtain ⟨wn, hwn⟩ : ∃ x, wxz.setCell ⟨D, 0, none⟩ (.slice aN (acc.ops.length + 1) cN) = x := ⟨_, rfl⟩
            rw [hwn] at hD6 hA6 hE6 hR6 hrd6 hW6 hO6
            have HDn := Lib.hid hD6; have HAn := Lib.hid hA6; have HEn := Lib.hid hE6; have HRn := Lib.hid hR6; have HRdn := Lib.hid hrd6; have HWn := Lib.hid hW6; have HOn := Lib.hid hO6; have HWN := Lib.hid hwn
            have Kn := Lib.hid (kind_any b ts r1 _ 0 wn hrd6 (by decide))
            clear hDb hAb hEb hRb hD6 o6 hA6 hE6 hR6 hrd6 hob hW6 hO6 hwn hmv q1 q2 q5 gL2 gL3 eN oxz J
            go_upto_region 9 with (fail)
            rw [HWN.out]
            clear HWN y0 y1 yz
            obtain ⟨cR, fR⟩ := box1 HRn.out
            cases hk : isK 0 r1 with
            | true =>
              rw [hk] at Kn
              have hdone : R = .ok ⟨acc.ops ++ [⟨false, [], [], sub⟩], acc.frags⟩ r1 := by have := HNEW.out; rw [if_pos hk] at this; exact this.symm
              have HDONE := Lib.hid hdone; clear hk hdone
              go_wp2_with fail
              refine Kn.out.mono ?_
              rintro e w30 ⟨rfl, o30⟩
              have h30 := HRdn.out.still o30
              have hpos30 := h30.pos
              have hi : DocI w D A E Rb b ts R false w30 := ⟨⟨acc.ops ++ [⟨false, [], [], sub⟩], acc.frags⟩, r1, _, _, (o30.block D (Array.getElem?_eq_some_iff.1 HDn.out).1 (fun h => h)).trans HDn.out, (o30.block A (Array.getElem?_eq_some_iff.1 HAn.out).1 (fun h => h)).trans HAn.out, (o30.block E (Array.getElem?_eq_some_iff.1 HEn.out).1 (fun h => h)).trans HEn.out, (o30.block Rb (Array.getElem?_eq_some_iff.1 HRn.out).1 (fun h => h)).trans HRn.out, by rw [List.map_append, List.map_singleton]; exact HWn.out.only o30 (fun _ _ _ h => h), h30, HOn.out.trans o30, by have h1 := HFEW.out; have h2 := HLT.out; simp only [List.length_append, List.length_singleton]; omega, (fun h => by cases h), fun _ => HDONE.out⟩
              have HI2 := Lib.hid hi; have HPX := Lib.hid hpos30
              clear hi hpos30 h30 o30
              go_wp2_with fail
              go_roundw
              case rel => first | exact ⟨false, rfl, HI2⟩ | ((repeat apply Exists.intro); refine ⟨?_, rfl⟩; exact ⟨false, rfl, HI2⟩)
              case measure => have h1 := HPOS.out; have h2 := HPX.out; have h3 := HLT.out; omega
            | false =>
              rw [hk] at Kn
              have hgo : docF n ⟨acc.ops ++ [⟨false, [], [], sub⟩], acc.frags⟩ r1 = R := by have := HNEW.out; rw [if_neg (by rw [hk]; decide)] at this; exact this
              have HGO := Lib.hid hgo; clear hk hgo
              go_wp2_with fail
              refine Kn.out.mono ?_
              rintro e w30 ⟨rfl, o30⟩
              have h30 := HRdn.out.still o30
              have hpos30 := h30.pos
              have hi : DocI w D A E Rb b ts R true w30 := ⟨⟨acc.ops ++ [⟨false, [], [], sub⟩], acc.frags⟩, r1, _, _, (o30.block D (Array.getElem?_eq_some_iff.1 HDn.out).1 (fun h => h)).trans HDn.out, (o30.block A (Array.getElem?_eq_some_iff.1 HAn.out).1 (fun h => h)).trans HAn.out, (o30.block E (Array.getElem?_eq_some_iff.1 HEn.out).1 (fun h => h)).trans HEn.out, (o30.block Rb (Array.getElem?_eq_some_iff.1 HRn.out).1 (fun h => h)).trans HRn.out, by rw [List.map_append, List.map_singleton]; exact HWn.out.only o30 (fun _ _ _ h => h), h30, HOn.out.trans o30, by have h1 := HFEW.out; have h2 := HLT.out; simp only [List.length_append, List.length_singleton]; omega, (fun _ => ⟨n, by have h1 := HN.out; have h2 := HLT.out; omega, HGO.out⟩), fun h => by cases h⟩
              have HI2 := Lib.hid hi; have HPX := Lib.hid hpos30
              clear hi hpos30 h30 o30
              go_wp2_with fail
              go_roundw
              case rel => first | exact ⟨true, rfl, HI2⟩ | ((repeat apply Exists.intro); refine ⟨?_, rfl⟩; exact ⟨true, rfl, HI2⟩)
              case measure => have h1 := HPOS.out; have h2 := HPX.out; have h3 := HLT.out; omega
        | false =>
          go_wp2_with fail
          refine I.out.mono ?_
          rintro e w20 ⟨rfl, o20⟩
          have HD20 := Lib.hid ((o20.block D (Array.getElem?_eq_some_iff.1 HDr.out).1 (fun h => h)).trans HDr.out)
          have HA20 := Lib.hid ((o20.block A (Array.getElem?_eq_some_iff.1 HAr.out).1 (fun h => h)).trans HAr.out)
          have HE20 := Lib.hid ((o20.block E (Array.getElem?_eq_some_iff.1 HEr.out).1 (fun h => h)).trans HEr.out)
          have HR20 := Lib.hid ((o20.block Rb (Array.getElem?_eq_some_iff.1 HRr.out).1 (fun h => h)).trans HRr.out)
          have HW20 := Lib.hid (HWr.out.only o20 (fun k h1 h2 e => by exact e))
          have HO20 := Lib.hid (HOr.out.trans' o20 (fun q hq h => by exact h))
          have H20 := Lib.hid (HDr'.out.still o20)
          obtain ⟨aK20, cK20, eK, -, -, gK3⟩ := HW20.out.left.form
          obtain ⟨aL20, cL20, eL, -, -, fL3⟩ := HW20.out.right.form
          injection eK with eK1 eK2 eK3
          injection eL with eL1 eL2 eL3
          subst eK1; subst eK3; subst eL1; subst eL3
          clear eK2 eL2
          have HFK20 := Lib.hid gK3; have HFL20 := Lib.hid fL3; clear gK3 fL3
          have hz20 : D < w20.heap.size := (Array.getElem?_eq_some_iff.1 HD20.out).1
          clear HDr HAr HEr HRr HWr HDr' HOr o20 hDz cR fR I
          have T := Lib.hid (take_any b ts rest _ wFragment w20 H20.out)
          unfold tookP at T
          obtain ⟨bb, hbb⟩ : ∃ x, isT wFragment rest = x := ⟨_, rfl⟩
          rw [hbb] at T
          have HBT := Lib.hid hbb; clear hbb
          obtain ⟨cR, fR⟩ := box1 HR20.out
          cases bb with
          | true =>
            go_wp2_with fail
            refine T.out.mono ?_
            rintro e w21 ⟨rfl, h21, o21⟩
            have h21 : RdP w21 b ts rest.tail (24 - ((24 : Nat) : Int)) := by simpa using h21
            have HD21 := Lib.hid ((o21.block D (Array.getElem?_eq_some_iff.1 HD20.out).1 (by omega)).trans HD20.out)
            have HA21 := Lib.hid ((o21.block A (Array.getElem?_eq_some_iff.1 HA20.out).1 (by omega)).trans HA20.out)
            have HE21 := Lib.hid ((o21.block E (Array.getElem?_eq_some_iff.1 HE20.out).1 (by omega)).trans HE20.out)
            have HR21 := Lib.hid ((o21.block Rb (Array.getElem?_eq_some_iff.1 HR20.out).1 (by omega)).trans HR20.out)
            have HW21 := Lib.hid (HW20.out.only o21 (fun k h1 h2 e => by have e : k = b := e; omega))
            have HO21 := Lib.hid (HO20.out.trans' o21 (fun q hq h => by have := HWD.out; have h : q = b := h; omega))
            have H21 := Lib.hid h21
            obtain ⟨aK21, cK21, eK, -, -, gK3⟩ := HW21.out.left.form
            obtain ⟨aL21, cL21, eL, -, -, fL3⟩ := HW21.out.right.form
            injection eK with eK1 eK2 eK3
            injection eL with eL1 eL2 eL3
            subst eK1; subst eK3; subst eL1; subst eL3
            clear eK2 eL2
            have HFK21 := Lib.hid gK3; have HFL21 := Lib.hid fL3; clear gK3 fL3
            have hz21 : D < w21.heap.size := (Array.getElem?_eq_some_iff.1 HD21.out).1
            clear HD20 HA20 HE20 HR20 HW20 H20 HO20 o21 h21 cR fR T HFK20 HFL20 hz20
            cases hq : fragP rest.tail with
            | bad a c =>
              have J : ∀ wx, Only (fun _ => False) w21 wx → Calls Tryd.prog 30 #[.pointer (some ⟨b, 0, none⟩)] wx (Ans wx b ts (24 - ((24 : Nat) : Int)) (aggP wx.heap.size frC) (.bad a c)) := fun wx o => by
                have := fragment_any b ts rest.tail wx (H21.out.still o)
                rw [hq] at this; exact this
              have J := Lib.hid J
              have HEB := Lib.hid (HEQ.out.symm.trans (bind_bad ((if_neg (by rw [HBB.out]; decide)).trans ((if_pos HBT.out).trans (bind_bad hq))))); clear hq
              have hcz := HCZ.out _ _ HEB.out
              obtain ⟨cR, fR⟩ := box1 HR21.out
              obtain ⟨y0, y1, yz⟩ := boxN2 HD21.out
              clear cR fR y0 y1 yz
              go_upto_region 14 with (fail)
              obtain ⟨PP, hPP⟩ : ∃ PP : Exit → Act → World → Prop, ∀ e av wv, PP e av wv ↔ (e = Exit.panic (faultV c) ∧ av.defers = [dfC E, dfD E Rb D A] ∧ av.tmps[2]? = some (.pointer (some ⟨D, 0, none⟩)) ∧ av.tmps[3]? = some (.pointer (some ⟨A, 0, none⟩)) ∧ av.tmps[4]? = some (.pointer (some ⟨E, 0, none⟩)) ∧ Only (fun k => k = b) w21 wv ∧ ∃ (r'' : List Tok) (dp' : Int), RdP wv b ts r'' dp' ∧ atT r'' = a) := ⟨_, fun _ _ _ => Iff.rfl⟩
              refine Code.wp_mono (Q := PP) ?_ ?_
              · intro e av w8 hh
                obtain ⟨rfl, hdf, t2, t3, t4, o5, r'', dp', h5, ha⟩ := (hPP _ _ _).1 hh
                obtain ⟨tm, df⟩ := av
                have hdf : df = [dfC E, dfD E Rb D A] := hdf
                subst hdf
                have hD8 := (o5.block D (Array.getElem?_eq_some_iff.1 HD21.out).1 (by omega)).trans HD21.out
                have hA8 := (o5.block A (Array.getElem?_eq_some_iff.1 HA21.out).1 (by omega)).trans HA21.out
                have hE8 := (o5.block E (Array.getElem?_eq_some_iff.1 HE21.out).1 (by omega)).trans HE21.out
                have hR8 := (o5.block Rb (Array.getElem?_eq_some_iff.1 HR21.out).1 (by omega)).trans HR21.out
                refine door2_bad (D := D) (A := A) (E := E) (Rb := Rb) (b := b) hcz hD8 hA8 hE8 hR8 h5 l1 l2 l4 l5 (slices_no _ _ _ _ _ _) (fun w' k1 k2 k3 k4 => ?_)
                obtain ⟨x0, x1, -⟩ := boxN2 k1
                obtain ⟨x2, -⟩ := box1 k2
                obtain ⟨x3, -⟩ := box1 k3
                rw [ha] at x2
                have t2 : tm[2]? = _ := t2
                have t3 : tm[3]? = _ := t3
                have t4 : tm[4]? = _ := t4
                exact ⟨_, by simp [results, Tryd.results14, go_sem, t2, t3, t4, x0, x1, x2, x3], FB.out _ _ w' HEB.out ((HO21.out.trans' o5 (fun q hq h => by have := HWD.out; have h : q = b := h; omega)).trans' k4 (fun q hq h => by have := HWD.out; rcases h with h | h | h <;> omega))⟩
              refine wp_region_dies 7 (by kernel_rfl) rfl (by kernel_rfl) [some 48, some 49, some 50, some 51, some 52, some 53, some 54] rfl rfl 3 (by decide) [4, 5, 6, 7] (by kernel_rfl) (fun _ => False) [(fun v _ => v = (.pointer (some ⟨D, 1, none⟩))), (fun v _ => v = (.slice aL acc.frags.length cL)), (fun v _ => v = (.pointer (some ⟨b, 0, none⟩))), (fun _ _ => True), (fun _ _ => True), (fun _ _ => True), (fun _ _ => True)] rfl ⟨Stable.is _ _, Stable.is _ _, Stable.is _ _, Stable.any _, Stable.any _, Stable.any _, Stable.any _, trivial⟩ [0, 0, 0, 1, 2, 2, 2] (by decide) ⟨?_, ?_, ?_, ?_, trivial⟩
              · intro x wx ox hN TT HTT
                clear hN
                unfold StepTo
                simp only [putAll, Act.put, List.setIfInBounds_toArray, List.set_cons_succ, List.set_cons_zero]
                go_wp2_with fail
                exact ⟨rfl, _, rfl, HTT.out _ _ (rfl) (Only.refl _ _)⟩
              · intro x wx ox hN TT HTT
                have r48 : x 0 = (.pointer (some ⟨D, 1, none⟩)) := hN.1 rfl
                clear hN
                unfold StepTo
                simp only [putAll, Act.put, List.setIfInBounds_toArray, List.set_cons_succ, List.set_cons_zero, r48]
                clear r48
                have hx := (ox.block D (Array.getElem?_eq_some_iff.1 HD21.out).1 (fun h => h)).trans HD21.out
                obtain ⟨y0, y1, yz⟩ := boxN2 hx
                clear hx
                go_wp2_with fail
                exact ⟨rfl, _, rfl, HTT.out _ _ (rfl) (Only.refl _ _)⟩
              · intro x wx ox hN TT HTT
                clear hN
                unfold StepTo
                simp only [putAll, Act.put, List.setIfInBounds_toArray, List.set_cons_succ, List.set_cons_zero]
                have hx := (ox.block Rb (Array.getElem?_eq_some_iff.1 HR21.out).1 (fun h => h)).trans HR21.out
                obtain ⟨cR, fR⟩ := box1 hx
                clear hx
                go_wp2_with fail
                exact ⟨rfl, _, rfl, HTT.out _ _ (rfl) (Only.refl _ _)⟩
              · intro x wx ox hN
                have r50 : x 2 = (.pointer (some ⟨b, 0, none⟩)) := hN.1 rfl
                clear hN
                unfold StepX
                simp only [putAll, Act.put, List.setIfInBounds_toArray, List.set_cons_succ, List.set_cons_zero, r50]
                clear r50
                have ht := J.out wx (((Only.refl _ w21).drew).trans ox)
                have HT := Lib.hid ht; have HOX := Lib.hid ox; clear ht ox
                go_wp2_with fail
                refine HT.out.mono ?_
                rintro e w8 ⟨rfl, ⟨r'', dp', h5, ha, k1, k2⟩, o5⟩
                have o5 : Only (fun k => k = b) w21 w8 := ((((Only.refl _ w21).drew).trans HOX.out).mono (T := fun k => k = b) (fun _ _ h => h.elim)).trans o5
                exact .inr ⟨by simp, ⟨rfl, rfl⟩, o5, r'', ⟨dp', h5⟩, ha⟩
            | ok xx r1 =>
              have J : ∀ wx, Only (fun _ => False) w21 wx → Calls Tryd.prog 30 #[.pointer (some ⟨b, 0, none⟩)] wx (Ans wx b ts (24 - ((24 : Nat) : Int)) (aggP wx.heap.size frC) (.ok xx r1)) := fun wx o => by
                have := fragment_any b ts rest.tail wx (H21.out.still o)
                rw [hq] at this; exact this
              have J := Lib.hid J
              have hdef : defP acc rest = .ok ⟨acc.ops, acc.frags ++ [xx]⟩ r1 := (if_neg (by rw [HBB.out]; decide)).trans ((if_pos HBT.out).trans (bind_ok hq))
              have hlt := defP_takes acc _ _ _ hdef
              have hnew := (bind_ok hdef).symm.trans HEQ.out
              have HLT := Lib.hid hlt; have HNEW := Lib.hid hnew
              clear hq hdef hlt hnew
              go_upto_region 14 with (fail)
              refine wp_region_stepsM 7 (by kernel_rfl) rfl (by kernel_rfl) [some 48, some 49, some 50, some 51, some 52, some 53, some 54] rfl rfl 3 5 (fun q => q = b) (fun q => (Value.slice aL acc.frags.length cL).ownBlock = some q) [4, 5, 6, 7] (by kernel_rfl) [2] (by kernel_rfl) (by decide) (by decide) (.inr ⟨by decide, by decide⟩) [(fun v _ => v = (.pointer (some ⟨D, 1, none⟩))), (fun v _ => v = (.slice aL acc.frags.length cL)), (fun v _ => v = (.pointer (some ⟨b, 0, none⟩))), (fun v w1 => (∃ s0 s1 a1 l1 e1', v = .agg #[.string ⟨(s0 : List UInt8).toArray⟩, .string ⟨(s1 : List UInt8).toArray⟩, .slice a1 l1 e1'] ∧ CellsAt w1 (fun q => w21.heap.size ≤ q) (frC xx) [.string ⟨s0.toArray⟩, .string ⟨s1.toArray⟩, .slice a1 l1 e1']) ∧ RdP w1 b ts r1 (24 - ((24 : Nat) : Int))), (fun v w1 => ∃ (g : Nat) (cs : List Value), v = .slice (some ⟨g, 0, none⟩) 1 1 ∧ w21.heap.size ≤ g ∧ g < w1.heap.size ∧ cs.length = 3 ∧ w1.rangeAt g 0 cs ∧ CellsAt w1 (fun q => w21.heap.size ≤ q) (frC xx) cs ∧ RdP w1 b ts r1 (24 - ((24 : Nat) : Int))), (fun v w1 => OwnTwo w1 (Rb + 1) 39 53 4 3 (.slice aK acc.ops.length cK) v (acc.ops.map opC) (acc.frags.map frC ++ [frC xx]) ∧ (∀ q, v.ownBlock = some q → (Value.slice aL acc.frags.length cL).ownBlock = some q ∨ w21.heap.size ≤ q) ∧ RdP w1 b ts r1 (24 - ((24 : Nat) : Int))), (fun v _ => v = (.pointer (some ⟨D, 1, none⟩)))] rfl ⟨?_, ?_, ?_, ?_, ?_, ?_, ?_, trivial⟩ _ rfl ⟨?_, ?_, ?_, ?_, ?_, ?_, ?_, trivial⟩ ?_
              · exact Stable.is _ _
              · exact Stable.is _ _
              · exact Stable.is _ _
              · intro v w1 w2 h ho
                have ho : Only (fun q => (Value.slice aL acc.frags.length cL).ownBlock = some q) w1 w2 := ho
                exact (by obtain ⟨⟨s0, s1, a1, l1, e1', e1, e2⟩, e3⟩ := h; exact ⟨⟨s0, s1, a1, l1, e1', e1, CellsAt.only ho (fun q hq hk => by have := (HFL21.out q hk).2; have hq : w21.heap.size ≤ q := hq; omega) _ _ e2⟩, e3.only ho (fun k hk h => by have := (HFL21.out k h).1; omega)⟩)
              · intro v w1 w2 h ho
                have ho : Only (fun q => (Value.slice aL acc.frags.length cL).ownBlock = some q) w1 w2 := ho
                exact (by obtain ⟨g, cs, e1, e2, e3, e4, e5, e6, e7⟩ := h; have hng : ¬ (Value.slice aL acc.frags.length cL).ownBlock = some g := fun hk => (by have := (HFL21.out g hk).2; omega); exact ⟨g, cs, e1, e2, Nat.lt_of_lt_of_le e3 ho.size, e4, range_keep e5 e3 ho hng, CellsAt.only ho (fun q hq hk => by have := (HFL21.out q hk).2; have hq : w21.heap.size ≤ q := hq; omega) _ _ e6, e7.only ho (fun k hk h => by have := (HFL21.out k h).1; omega)⟩)
              · intro v w1 w2 h ho
                have ho : Only (fun _ => False) w1 w2 := ho
                exact (by obtain ⟨e1, e2, e3⟩ := h; exact ⟨e1.only ho (fun _ _ _ h => h), e2, e3.still ho⟩)
              · exact Stable.is _ _
              · intro x wx ox hN TT HTT
                have ox : Only (fun q => (fun q => q = b) q ∨ (fun q => (Value.slice aL acc.frags.length cL).ownBlock = some q) q) _ wx := ox
                clear hN
                unfold StepTo
                simp only [putAll, Act.put, List.setIfInBounds_toArray, List.set_cons_succ, List.set_cons_zero]
                go_wp2_with fail
                exact ⟨rfl, _, rfl, HTT.out _ _ (rfl) (Only.refl _ _)⟩
              · intro x wx ox hN TT HTT
                have ox : Only (fun q => (fun q => q = b) q ∨ (fun q => (Value.slice aL acc.frags.length cL).ownBlock = some q) q) _ wx := ox
                have r48 : x 0 = (.pointer (some ⟨D, 1, none⟩)) := hN.1 rfl
                clear hN
                unfold StepTo
                simp only [putAll, Act.put, List.setIfInBounds_toArray, List.set_cons_succ, List.set_cons_zero, r48]
                clear r48
                have hx := (ox.block D (Array.getElem?_eq_some_iff.1 HD21.out).1 (fun h => by rcases h with h | h; have h : D = b := h; omega; (have := (HFL21.out _ h).1; omega))).trans HD21.out
                obtain ⟨y0, y1, yz⟩ := boxN2 hx
                clear hx
                go_wp2_with fail
                exact ⟨rfl, _, rfl, HTT.out _ _ (rfl) (Only.refl _ _)⟩
              · intro x wx ox hN TT HTT
                have ox : Only (fun _ => False) _ wx := ox
                clear hN
                unfold StepTo
                simp only [putAll, Act.put, List.setIfInBounds_toArray, List.set_cons_succ, List.set_cons_zero]
                have hx := (ox.block Rb (Array.getElem?_eq_some_iff.1 HR21.out).1 (fun h => h)).trans HR21.out
                obtain ⟨cR, fR⟩ := box1 hx
                clear hx
                go_wp2_with fail
                exact ⟨rfl, _, rfl, HTT.out _ _ (rfl) (Only.refl _ _)⟩
              · intro x wx ox hN TT HTT
                have ox : Only (fun _ => False) _ wx := ox
                have r50 : x 2 = (.pointer (some ⟨b, 0, none⟩)) := hN.1 rfl
                clear hN
                unfold StepTo
                simp only [putAll, Act.put, List.setIfInBounds_toArray, List.set_cons_succ, List.set_cons_zero, r50]
                clear r50
                have hsl : w21.heap.size ≤ wx.heap.size := ox.size
                have ht := J.out wx (((Only.refl _ w21).drew).trans ox)
                have HT := Lib.hid ht; have HSL := Lib.hid hsl; clear ht hsl
                go_wp2_with fail
                refine HT.out.mono ?_
                rintro e w6 ⟨v6, rfl, ⟨cs6, rfl, hv6⟩, h6, o6⟩
                obtain ⟨s0, s1, a1, l1, e1', rfl⟩ := frC_form2 hv6
                have H6 := Lib.hid h6; have O6 := Lib.hid o6; have HV6 := Lib.hid hv6; clear h6 o6 hv6
                go_wp2_with fail
                exact ⟨rfl, _, rfl, HTT.out _ _ (⟨⟨s0, s1, a1, l1, e1', rfl, CellsAt.weaken (fun q _ h => Nat.le_trans HSL.out h) _ _ HV6.out⟩, H6.out⟩) (O6.out)⟩
              · intro x wx ox hN TT HTT
                have ox : Only (fun q => (fun q => q = b) q ∨ (fun q => (Value.slice aL acc.frags.length cL).ownBlock = some q) q) _ wx := ox
                have r51 : (fun (v : Value) (w1 : World) => (∃ s0 s1 a1 l1 e1', v = .agg #[.string ⟨(s0 : List UInt8).toArray⟩, .string ⟨(s1 : List UInt8).toArray⟩, .slice a1 l1 e1'] ∧ CellsAt w1 (fun q => w21.heap.size ≤ q) (frC xx) [.string ⟨s0.toArray⟩, .string ⟨s1.toArray⟩, .slice a1 l1 e1']) ∧ RdP w1 b ts r1 (24 - ((24 : Nat) : Int))) (x 3) wx := hN.1 rfl
                clear hN
                unfold StepTo
                simp only [putAll, Act.put, List.setIfInBounds_toArray, List.set_cons_succ, List.set_cons_zero]
                obtain ⟨⟨s0, s1, a1, l1, e1', e1, e2⟩, e3⟩ := r51
                simp only [e1]
                have hn := heap_new wx (.cells #[.string ⟨s0.toArray⟩, .string ⟨s1.toArray⟩, .slice a1 l1 e1'] 53)
                have on := (Only.refl (fun _ => False) wx).alloc (.cells #[.string ⟨s0.toArray⟩, .string ⟨s1.toArray⟩, .slice a1 l1 e1'] 53)
                have hgl : w21.heap.size ≤ wx.heap.size := ox.size
                have H3 := Lib.hid e3; have HNB := Lib.hid hn; have ON := Lib.hid on; have HGL2 := Lib.hid hgl; have HV2 := Lib.hid e2; clear e1 e2 e3 hn on hgl
                go_wp2_with fail
                exact ⟨rfl, _, rfl, HTT.out _ _ (⟨wx.heap.size, _, rfl, HGL2.out, by simp, rfl, range_of_block HNB.out, CellsAt.only ON.out (fun _ _ h => h) _ _ HV2.out, H3.out.still ON.out⟩) (ON.out)⟩
              · intro x wx ox hN TT HTT
                have ox : Only (fun q => q = b) _ wx := ox
                have r49 : x 1 = (.slice aL acc.frags.length cL) := hN.1 rfl
                have r52 : (fun (v : Value) (w1 : World) => ∃ (g : Nat) (cs : List Value), v = .slice (some ⟨g, 0, none⟩) 1 1 ∧ w21.heap.size ≤ g ∧ g < w1.heap.size ∧ cs.length = 3 ∧ w1.rangeAt g 0 cs ∧ CellsAt w1 (fun q => w21.heap.size ≤ q) (frC xx) cs ∧ RdP w1 b ts r1 (24 - ((24 : Nat) : Int))) (x 4) wx := hN.2.1 rfl
                have r51 : (fun (v : Value) (w1 : World) => (∃ s0 s1 a1 l1 e1', v = .agg #[.string ⟨(s0 : List UInt8).toArray⟩, .string ⟨(s1 : List UInt8).toArray⟩, .slice a1 l1 e1'] ∧ CellsAt w1 (fun q => w21.heap.size ≤ q) (frC xx) [.string ⟨s0.toArray⟩, .string ⟨s1.toArray⟩, .slice a1 l1 e1']) ∧ RdP w1 b ts r1 (24 - ((24 : Nat) : Int))) (x 3) wx := hN.2.2.1 rfl
                clear hN
                unfold StepTo
                simp only [putAll, Act.put, List.setIfInBounds_toArray, List.set_cons_succ, List.set_cons_zero, r49]
                clear r49
                obtain ⟨g, cs, e1, e2, e3, e4, e5, e6, e7⟩ := r52
                simp only [e1]
                have htw := (HW21.out.only (((Only.refl _ w21).drew).trans ox) (fun k h1 h2 e => by have e : k = b := e; omega))
                obtain ⟨xs, p1, p2⟩ := htw.l
                have hys : ∀ j u, cs[j]? = some u → wx.cell? ((⟨g, 0, none⟩ : Addr).add j) = some u := fun j u hu => by rw [addr_add]; exact e5 j u hu
                have hone : ∀ u ∈ cs, u.oneCell' = true := CellsAt.one e6
                have hsl : w21.heap.size ≤ wx.heap.size := ox.size
                have hkb : (acc.frags.length + 1) ≤ 1000001 := by have h2 := HFEW.out; omega
                have HTW := Lib.hid htw; have HP1 := Lib.hid p1; have HP2 := Lib.hid p2; have HYS := Lib.hid hys; have HSL := Lib.hid hsl; have HKB2 := Lib.hid hkb; have H6 := Lib.hid e7; have HV6 := Lib.hid e6; have HONE := Lib.hid hone; clear p1 p2 hys hsl hkb e7 e6 e5 e1 hone htw
                rw [List.length_map] at HP1
                go_wp2_with ((refine wpList_append_own2 (o := ⟨some 53, _, _, _, _, _⟩) rfl (.tmp 49) (.tmp 52) 24 53 (by rfl) Tryd.underlying24 infoF rfl (by decide) (Rb + 1) (.slice aL acc.frags.length cL) acc.frags.length 1 1 xs cs ⟨g, 0, none⟩ (by rfl) (by rfl) HP1.out (by rw [e4]) HYS.out HONE.out (by have := HKB2.out; unfold maxLen; omega) (by have := HKB2.out; omega) (by have := HSL.out; have := (Array.getElem?_eq_some_iff.1 HR21.out).1; omega) ?_; intro v' w9 q1 q2 q3))
                have hv8 : CellsAt wx (fun q => (Rb + 1 ≤ q ∧ (Value.slice aL acc.frags.length cL).ownBlock ≠ some q ∧ q < wx.heap.size) ∧ (Value.slice aK acc.ops.length cK).ownBlock ≠ some q) (frC xx) cs := CellsAt.weaken (fun q hq h => by have h : w21.heap.size ≤ q := h; have := (Array.getElem?_eq_some_iff.1 HR21.out).1; exact ⟨⟨by omega, fun hv => (by have := (HFL21.out q hv).2; omega), hq⟩, fun hv => (by have := (HFK21.out q hv).2; omega)⟩) _ _ HV6.out
                have hp1 := HP1.out; have hp2 := HP2.out
                have hrow := OwnTwo.append (r := frC xx) HTW.out (by rw [List.length_map]; exact hp1) hp2 e4 hv8 (by rw [List.length_map]; exact q1) q2 q3
                exact ⟨rfl, _, rfl, HTT.out _ _ (⟨hrow, fun q hq => (q3 q hq).imp id (fun h => Nat.le_trans HSL.out h), H6.out.only q2 (fun k hk h => by have := (HFL21.out k h).1; omega)⟩) (q2)⟩
              · intro x wx ox hN TT HTT
                have ox : Only (fun q => (fun q => q = b) q ∨ (fun q => (Value.slice aL acc.frags.length cL).ownBlock = some q) q) _ wx := ox
                have r48 : x 0 = (.pointer (some ⟨D, 1, none⟩)) := hN.1 rfl
                have r49 : x 1 = (.slice aL acc.frags.length cL) := hN.2.1 rfl
                have r50 : x 2 = (.pointer (some ⟨b, 0, none⟩)) := hN.2.2.1 rfl
                have r51 : (fun (v : Value) (w1 : World) => (∃ s0 s1 a1 l1 e1', v = .agg #[.string ⟨(s0 : List UInt8).toArray⟩, .string ⟨(s1 : List UInt8).toArray⟩, .slice a1 l1 e1'] ∧ CellsAt w1 (fun q => w21.heap.size ≤ q) (frC xx) [.string ⟨s0.toArray⟩, .string ⟨s1.toArray⟩, .slice a1 l1 e1']) ∧ RdP w1 b ts r1 (24 - ((24 : Nat) : Int))) (x 3) wx := hN.2.2.2.1 rfl
                have r52 : (fun (v : Value) (w1 : World) => ∃ (g : Nat) (cs : List Value), v = .slice (some ⟨g, 0, none⟩) 1 1 ∧ w21.heap.size ≤ g ∧ g < w1.heap.size ∧ cs.length = 3 ∧ w1.rangeAt g 0 cs ∧ CellsAt w1 (fun q => w21.heap.size ≤ q) (frC xx) cs ∧ RdP w1 b ts r1 (24 - ((24 : Nat) : Int))) (x 4) wx := hN.2.2.2.2.1 rfl
                have r53 : (fun (v : Value) (w1 : World) => OwnTwo w1 (Rb + 1) 39 53 4 3 (.slice aK acc.ops.length cK) v (acc.ops.map opC) (acc.frags.map frC ++ [frC xx]) ∧ (∀ q, v.ownBlock = some q → (Value.slice aL acc.frags.length cL).ownBlock = some q ∨ w21.heap.size ≤ q) ∧ RdP w1 b ts r1 (24 - ((24 : Nat) : Int))) (x 5) wx := hN.2.2.2.2.2.1 rfl
                clear hN
                unfold StepTo
                simp only [putAll, Act.put, List.setIfInBounds_toArray, List.set_cons_succ, List.set_cons_zero, r48, r49, r50]
                clear r48 r49 r50
                go_wp2_with fail
                exact ⟨rfl, _, rfl, HTT.out _ _ (rfl) (Only.refl _ _)⟩
              intro xz wxz oxz hN
              have oxz : Only (fun q => (fun q => q = b) q ∨ (fun q => (Value.slice aL acc.frags.length cL).ownBlock = some q) q) _ wxz := oxz
              have r48 : xz 0 = (.pointer (some ⟨D, 1, none⟩)) := hN.1
              have r49 : xz 1 = (.slice aL acc.frags.length cL) := hN.2.1
              have r50 : xz 2 = (.pointer (some ⟨b, 0, none⟩)) := hN.2.2.1
              have r51 : (fun (v : Value) (w1 : World) => (∃ s0 s1 a1 l1 e1', v = .agg #[.string ⟨(s0 : List UInt8).toArray⟩, .string ⟨(s1 : List UInt8).toArray⟩, .slice a1 l1 e1'] ∧ CellsAt w1 (fun q => w21.heap.size ≤ q) (frC xx) [.string ⟨s0.toArray⟩, .string ⟨s1.toArray⟩, .slice a1 l1 e1']) ∧ RdP w1 b ts r1 (24 - ((24 : Nat) : Int))) (xz 3) wxz := hN.2.2.2.1
              have r52 : (fun (v : Value) (w1 : World) => ∃ (g : Nat) (cs : List Value), v = .slice (some ⟨g, 0, none⟩) 1 1 ∧ w21.heap.size ≤ g ∧ g < w1.heap.size ∧ cs.length = 3 ∧ w1.rangeAt g 0 cs ∧ CellsAt w1 (fun q => w21.heap.size ≤ q) (frC xx) cs ∧ RdP w1 b ts r1 (24 - ((24 : Nat) : Int))) (xz 4) wxz := hN.2.2.2.2.1
              have r53 : (fun (v : Value) (w1 : World) => OwnTwo w1 (Rb + 1) 39 53 4 3 (.slice aK acc.ops.length cK) v (acc.ops.map opC) (acc.frags.map frC ++ [frC xx]) ∧ (∀ q, v.ownBlock = some q → (Value.slice aL acc.frags.length cL).ownBlock = some q ∨ w21.heap.size ≤ q) ∧ RdP w1 b ts r1 (24 - ((24 : Nat) : Int))) (xz 5) wxz := hN.2.2.2.2.2.1
              have r54 : xz 6 = (.pointer (some ⟨D, 1, none⟩)) := hN.2.2.2.2.2.2.1
              clear hN
              simp only [putAll, Act.put, List.setIfInBounds_toArray, List.set_cons_succ, List.set_cons_zero, r48, r49, r50, r54]
              clear r48 r49 r50 r54
              obtain ⟨q1, q2, q5⟩ := r53
              obtain ⟨aN, cN, eN, gL1, gL2, gL3⟩ := q1.right.form
              rw [List.length_append, List.length_map, List.length_singleton] at eN gL1
              rw [eN] at q1 q2 gL3 ⊢
              have gN2 : cN ≤ 9223372036854775807 := by unfold maxLen at gL2; omega
              have hmv : ∀ k, k ≤ Rb → k ≠ b → k < w21.heap.size → wxz.heap[k]? = w21.heap[k]? := fun k hk hkb hks => oxz.block k hks (fun h => by rcases h with h | h; exact hkb h; (have := (HFL21.out _ h).1; omega))
              have hDb := (hmv D (by omega) (by omega) (Array.getElem?_eq_some_iff.1 HD21.out).1).trans HD21.out
              have hAb := (hmv A (by omega) (by omega) (Array.getElem?_eq_some_iff.1 HA21.out).1).trans HA21.out
              have hEb := (hmv E (by omega) (by omega) (Array.getElem?_eq_some_iff.1 HE21.out).1).trans HE21.out
              have hRb := (hmv Rb (by omega) (by omega) (Array.getElem?_eq_some_iff.1 HR21.out).1).trans HR21.out
              have hD6 := heap_set (o := 1) hDb (.slice aN (acc.frags.length + 1) cN)
              have hD6 : (wxz.setCell ⟨D, 1, none⟩ (.slice aN (acc.frags.length + 1) cN)).heap[D]? = some (.cells #[.slice aK acc.ops.length cK, .slice aN (acc.frags.length + 1) cN] 26 (0, 0)) := by simpa using hD6
              have o6 := (Only.refl (fun k => k = D) wxz).setCell (p := ⟨D, 1, none⟩) (.inl rfl) (.slice aN (acc.frags.length + 1) cN)
              have hA6 := (o6.block A (Array.getElem?_eq_some_iff.1 hAb).1 (by omega)).trans hAb
              have hE6 := (o6.block E (Array.getElem?_eq_some_iff.1 hEb).1 (by omega)).trans hEb
              have hR6 := (o6.block Rb (Array.getElem?_eq_some_iff.1 hRb).1 (by omega)).trans hRb
              have hrd6 : RdP (wxz.setCell ⟨D, 1, none⟩ (.slice aN (acc.frags.length + 1) cN)) b ts r1 (24 - ((24 : Nat) : Int)) := rdP_old q5 o6 (by omega) (fun g' off n c' hcc => q5.apart hDb (slices_no _ _ _ _ _ _) hcc)
              have hob : Only (fun q => q = b ∨ q = D ∨ (Value.slice aL acc.frags.length cL).ownBlock = some q) w21 (wxz.setCell ⟨D, 1, none⟩ (.slice aN (acc.frags.length + 1) cN)) := ((((Only.refl _ w21).drew).trans' oxz (fun q _ h => h.imp id .inr)).trans' o6 (fun q _ h => .inr (.inl h)))
              have hW6 := q1.only o6 (fun k h1 h2 e => by have e : k = D := e; omega)
              have hO6 : Only (fun _ => False) w (wxz.setCell ⟨D, 1, none⟩ (.slice aN (acc.frags.length + 1) cN)) := HO21.out.trans' hob (fun q hq h => by have := HWD.out; rcases h with h | h | h; omega; omega; (have := (HFL21.out q h).1; omega))
              obtain ⟨y0, y1, yz⟩ := boxN2 hDb
              obtain ⟨wn, hwn⟩ : ∃ x, wxz.setCell ⟨D, 1, none⟩ (.slice aN (acc.frags.length + 1) cN) = x := ⟨_, rfl⟩
              rw [hwn] at hD6 hA6 hE6 hR6 hrd6 hW6 hO6
              have HDn := Lib.hid hD6; have HAn := Lib.hid hA6; have HEn := Lib.hid hE6; have HRn := Lib.hid hR6; have HRdn := Lib.hid hrd6; have HWn := Lib.hid hW6; have HOn := Lib.hid hO6; have HWN := Lib.hid hwn
              have Kn := Lib.hid (kind_any b ts r1 _ 0 wn hrd6 (by decide))
              clear hDb hAb hEb hRb hD6 o6 hA6 hE6 hR6 hrd6 hob hW6 hO6 hwn hmv q1 q2 q5 gL2 gL3 eN oxz J
              go_upto_region 9 with (fail)
              rw [HWN.out]
              clear HWN y0 y1 yz
              obtain ⟨cR, fR⟩ := box1 HRn.out
              cases hk : isK 0 r1 with
              | true =>
                rw [hk] at Kn
                have hdone : R = .ok ⟨acc.ops, acc.frags ++ [xx]⟩ r1 := by have := HNEW.out; rw [if_pos hk] at this; exact this.symm
                have HDONE := Lib.hid hdone; clear hk hdone
                go_wp2_with fail
                refine Kn.out.mono ?_
                rintro e w30 ⟨rfl, o30⟩
                have h30 := HRdn.out.still o30
                have hpos30 := h30.pos
                have hi : DocI w D A E Rb b ts R false w30 := ⟨⟨acc.ops, acc.frags ++ [xx]⟩, r1, _, _, (o30.block D (Array.getElem?_eq_some_iff.1 HDn.out).1 (fun h => h)).trans HDn.out, (o30.block A (Array.getElem?_eq_some_iff.1 HAn.out).1 (fun h => h)).trans HAn.out, (o30.block E (Array.getElem?_eq_some_iff.1 HEn.out).1 (fun h => h)).trans HEn.out, (o30.block Rb (Array.getElem?_eq_some_iff.1 HRn.out).1 (fun h => h)).trans HRn.out, by rw [List.map_append, List.map_singleton]; exact HWn.out.only o30 (fun _ _ _ h => h), h30, HOn.out.trans o30, by have h1 := HFEW.out; have h2 := HLT.out; simp only [List.length_append, List.length_singleton]; omega, (fun h => by cases h), fun _ => HDONE.out⟩
                have HI2 := Lib.hid hi; have HPX := Lib.hid hpos30
                clear hi hpos30 h30 o30
                go_wp2_with fail
                go_roundw
                case rel => first | exact ⟨false, rfl, HI2⟩ | ((repeat apply Exists.intro); refine ⟨?_, rfl⟩; exact ⟨false, rfl, HI2⟩)
                case measure => have h1 := HPOS.out; have h2 := HPX.out; have h3 := HLT.out; omega
              | false =>
                rw [hk] at Kn
                have hgo : docF n ⟨acc.ops, acc.frags ++ [xx]⟩ r1 = R := by have := HNEW.out; rw [if_neg (by rw [hk]; decide)] at this; exact this
                have HGO := Lib.hid hgo; clear hk hgo
                go_wp2_with fail
                refine Kn.out.mono ?_
                rintro e w30 ⟨rfl, o30⟩
                have h30 := HRdn.out.still o30
                have hpos30 := h30.pos
                have hi : DocI w D A E Rb b ts R true w30 := ⟨⟨acc.ops, acc.frags ++ [xx]⟩, r1, _, _, (o30.block D (Array.getElem?_eq_some_iff.1 HDn.out).1 (fun h => h)).trans HDn.out, (o30.block A (Array.getElem?_eq_some_iff.1 HAn.out).1 (fun h => h)).trans HAn.out, (o30.block E (Array.getElem?_eq_some_iff.1 HEn.out).1 (fun h => h)).trans HEn.out, (o30.block Rb (Array.getElem?_eq_some_iff.1 HRn.out).1 (fun h => h)).trans HRn.out, by rw [List.map_append, List.map_singleton]; exact HWn.out.only o30 (fun _ _ _ h => h), h30, HOn.out.trans o30, by have h1 := HFEW.out; have h2 := HLT.out; simp only [List.length_append, List.length_singleton]; omega, (fun _ => ⟨n, by have h1 := HN.out; have h2 := HLT.out; omega, HGO.out⟩), fun h => by cases h⟩
                have HI2 := Lib.hid hi; have HPX := Lib.hid hpos30
                clear hi hpos30 h30 o30
                go_wp2_with fail
                go_roundw
                case rel => first | exact ⟨true, rfl, HI2⟩ | ((repeat apply Exists.intro); refine ⟨?_, rfl⟩; exact ⟨true, rfl, HI2⟩)
                case measure => have h1 := HPOS.out; have h2 := HPX.out; have h3 := HLT.out; omega
          | false =>
            go_wp2_with fail
            refine T.out.mono ?_
            rintro e w21 ⟨rfl, h21, o21⟩
            have h21 : RdP w21 b ts rest (24 - ((24 : Nat) : Int)) := by simpa using h21
            have HD21 := Lib.hid ((o21.block D (Array.getElem?_eq_some_iff.1 HD20.out).1 (by omega)).trans HD20.out)
            have HA21 := Lib.hid ((o21.block A (Array.getElem?_eq_some_iff.1 HA20.out).1 (by omega)).trans HA20.out)
            have HE21 := Lib.hid ((o21.block E (Array.getElem?_eq_some_iff.1 HE20.out).1 (by omega)).trans HE20.out)
            have HR21 := Lib.hid ((o21.block Rb (Array.getElem?_eq_some_iff.1 HR20.out).1 (by omega)).trans HR20.out)
            have HW21 := Lib.hid (HW20.out.only o21 (fun k h1 h2 e => by have e : k = b := e; omega))
            have HO21 := Lib.hid (HO20.out.trans' o21 (fun q hq h => by have := HWD.out; have h : q = b := h; omega))
            have H21 := Lib.hid h21
            obtain ⟨aK21, cK21, eK, -, -, gK3⟩ := HW21.out.left.form
            obtain ⟨aL21, cL21, eL, -, -, fL3⟩ := HW21.out.right.form
            injection eK with eK1 eK2 eK3
            injection eL with eL1 eL2 eL3
            subst eK1; subst eK3; subst eL1; subst eL3
            clear eK2 eL2
            have HFK21 := Lib.hid gK3; have HFL21 := Lib.hid fL3; clear gK3 fL3
            have hz21 : D < w21.heap.size := (Array.getElem?_eq_some_iff.1 HD21.out).1
            clear HD20 HA20 HE20 HR20 HW20 H20 HO20 o21 h21 cR fR T HFK20 HFL20 hz20
            cases hq : opP rest with
            | bad a c =>
              have J : ∀ wx, Only (fun _ => False) w21 wx → Calls Tryd.prog 31 #[.pointer (some ⟨b, 0, none⟩)] wx (Ans wx b ts (24 - ((24 : Nat) : Int)) (aggP wx.heap.size opC) (.bad a c)) := fun wx o => by
                have := operation_any b ts rest wx (H21.out.still o)
                rw [hq] at this; exact this
              have J := Lib.hid J
              have HEB := Lib.hid (HEQ.out.symm.trans (bind_bad ((if_neg (by rw [HBB.out]; decide)).trans ((if_neg (by rw [HBT.out]; decide)).trans (bind_bad hq))))); clear hq
              have hcz := HCZ.out _ _ HEB.out
              obtain ⟨cR, fR⟩ := box1 HR21.out
              obtain ⟨y0, y1, yz⟩ := boxN2 HD21.out
              clear cR fR y0 y1 yz
              go_upto_region 10 with (fail)
              obtain ⟨PP, hPP⟩ : ∃ PP : Exit → Act → World → Prop, ∀ e av wv, PP e av wv ↔ (e = Exit.panic (faultV c) ∧ av.defers = [dfC E, dfD E Rb D A] ∧ av.tmps[2]? = some (.pointer (some ⟨D, 0, none⟩)) ∧ av.tmps[3]? = some (.pointer (some ⟨A, 0, none⟩)) ∧ av.tmps[4]? = some (.pointer (some ⟨E, 0, none⟩)) ∧ Only (fun k => k = b) w21 wv ∧ ∃ (r'' : List Tok) (dp' : Int), RdP wv b ts r'' dp' ∧ atT r'' = a) := ⟨_, fun _ _ _ => Iff.rfl⟩
              refine Code.wp_mono (Q := PP) ?_ ?_
              · intro e av w8 hh
                obtain ⟨rfl, hdf, t2, t3, t4, o5, r'', dp', h5, ha⟩ := (hPP _ _ _).1 hh
                obtain ⟨tm, df⟩ := av
                have hdf : df = [dfC E, dfD E Rb D A] := hdf
                subst hdf
                have hD8 := (o5.block D (Array.getElem?_eq_some_iff.1 HD21.out).1 (by omega)).trans HD21.out
                have hA8 := (o5.block A (Array.getElem?_eq_some_iff.1 HA21.out).1 (by omega)).trans HA21.out
                have hE8 := (o5.block E (Array.getElem?_eq_some_iff.1 HE21.out).1 (by omega)).trans HE21.out
                have hR8 := (o5.block Rb (Array.getElem?_eq_some_iff.1 HR21.out).1 (by omega)).trans HR21.out
                refine door2_bad (D := D) (A := A) (E := E) (Rb := Rb) (b := b) hcz hD8 hA8 hE8 hR8 h5 l1 l2 l4 l5 (slices_no _ _ _ _ _ _) (fun w' k1 k2 k3 k4 => ?_)
                obtain ⟨x0, x1, -⟩ := boxN2 k1
                obtain ⟨x2, -⟩ := box1 k2
                obtain ⟨x3, -⟩ := box1 k3
                rw [ha] at x2
                have t2 : tm[2]? = _ := t2
                have t3 : tm[3]? = _ := t3
                have t4 : tm[4]? = _ := t4
                exact ⟨_, by simp [results, Tryd.results14, go_sem, t2, t3, t4, x0, x1, x2, x3], FB.out _ _ w' HEB.out ((HO21.out.trans' o5 (fun q hq h => by have := HWD.out; have h : q = b := h; omega)).trans' k4 (fun q hq h => by have := HWD.out; rcases h with h | h | h <;> omega))⟩
              refine wp_region_dies 7 (by kernel_rfl) rfl (by kernel_rfl) [some 27, some 28, some 29, some 30, some 31, some 32, some 33] rfl rfl 3 (by decide) [4, 5, 6, 7] (by kernel_rfl) (fun _ => False) [(fun v _ => v = (.pointer (some ⟨D, 0, none⟩))), (fun v _ => v = (.slice aK acc.ops.length cK)), (fun v _ => v = (.pointer (some ⟨b, 0, none⟩))), (fun _ _ => True), (fun _ _ => True), (fun _ _ => True), (fun _ _ => True)] rfl ⟨Stable.is _ _, Stable.is _ _, Stable.is _ _, Stable.any _, Stable.any _, Stable.any _, Stable.any _, trivial⟩ [0, 0, 0, 1, 2, 2, 2] (by decide) ⟨?_, ?_, ?_, ?_, trivial⟩
              · intro x wx ox hN TT HTT
                clear hN
                unfold StepTo
                simp only [putAll, Act.put, List.setIfInBounds_toArray, List.set_cons_succ, List.set_cons_zero]
                go_wp2_with fail
                exact ⟨rfl, _, rfl, HTT.out _ _ (rfl) (Only.refl _ _)⟩
              · intro x wx ox hN TT HTT
                have r27 : x 0 = (.pointer (some ⟨D, 0, none⟩)) := hN.1 rfl
                clear hN
                unfold StepTo
                simp only [putAll, Act.put, List.setIfInBounds_toArray, List.set_cons_succ, List.set_cons_zero, r27]
                clear r27
                have hx := (ox.block D (Array.getElem?_eq_some_iff.1 HD21.out).1 (fun h => h)).trans HD21.out
                obtain ⟨y0, y1, yz⟩ := boxN2 hx
                clear hx
                go_wp2_with fail
                exact ⟨rfl, _, rfl, HTT.out _ _ (rfl) (Only.refl _ _)⟩
              · intro x wx ox hN TT HTT
                clear hN
                unfold StepTo
                simp only [putAll, Act.put, List.setIfInBounds_toArray, List.set_cons_succ, List.set_cons_zero]
                have hx := (ox.block Rb (Array.getElem?_eq_some_iff.1 HR21.out).1 (fun h => h)).trans HR21.out
                obtain ⟨cR, fR⟩ := box1 hx
                clear hx
                go_wp2_with fail
                exact ⟨rfl, _, rfl, HTT.out _ _ (rfl) (Only.refl _ _)⟩
              · intro x wx ox hN
                have r29 : x 2 = (.pointer (some ⟨b, 0, none⟩)) := hN.1 rfl
                clear hN
                unfold StepX
                simp only [putAll, Act.put, List.setIfInBounds_toArray, List.set_cons_succ, List.set_cons_zero, r29]
                clear r29
                have ht := J.out wx (((Only.refl _ w21).drew).trans ox)
                have HT := Lib.hid ht; have HOX := Lib.hid ox; clear ht ox
                go_wp2_with fail
                refine HT.out.mono ?_
                rintro e w8 ⟨rfl, ⟨r'', dp', h5, ha, k1, k2⟩, o5⟩
                have o5 : Only (fun k => k = b) w21 w8 := ((((Only.refl _ w21).drew).trans HOX.out).mono (T := fun k => k = b) (fun _ _ h => h.elim)).trans o5
                exact .inr ⟨by simp, ⟨rfl, rfl⟩, o5, r'', ⟨dp', h5⟩, ha⟩
            | ok xx r1 =>
              have J : ∀ wx, Only (fun _ => False) w21 wx → Calls Tryd.prog 31 #[.pointer (some ⟨b, 0, none⟩)] wx (Ans wx b ts (24 - ((24 : Nat) : Int)) (aggP wx.heap.size opC) (.ok xx r1)) := fun wx o => by
                have := operation_any b ts rest wx (H21.out.still o)
                rw [hq] at this; exact this
              have J := Lib.hid J
              have hdef : defP acc rest = .ok ⟨acc.ops ++ [xx], acc.frags⟩ r1 := (if_neg (by rw [HBB.out]; decide)).trans ((if_neg (by rw [HBT.out]; decide)).trans (bind_ok hq))
              have hlt := defP_takes acc _ _ _ hdef
              have hnew := (bind_ok hdef).symm.trans HEQ.out
              have HLT := Lib.hid hlt; have HNEW := Lib.hid hnew
              clear hq hdef hlt hnew
              go_upto_region 10 with (fail)
              refine wp_region_stepsM 7 (by kernel_rfl) rfl (by kernel_rfl) [some 27, some 28, some 29, some 30, some 31, some 32, some 33] rfl rfl 3 5 (fun q => q = b) (fun q => (Value.slice aK acc.ops.length cK).ownBlock = some q) [4, 5, 6, 7] (by kernel_rfl) [2] (by kernel_rfl) (by decide) (by decide) (.inr ⟨by decide, by decide⟩) [(fun v _ => v = (.pointer (some ⟨D, 0, none⟩))), (fun v _ => v = (.slice aK acc.ops.length cK)), (fun v _ => v = (.pointer (some ⟨b, 0, none⟩))), (fun v w1 => (∃ bo s0 a1 l1 e1' a2 l2 e2', v = .agg #[.bool bo, .string ⟨(s0 : List UInt8).toArray⟩, .slice a1 l1 e1', .slice a2 l2 e2'] ∧ CellsAt w1 (fun q => w21.heap.size ≤ q) (opC xx) [.bool bo, .string ⟨s0.toArray⟩, .slice a1 l1 e1', .slice a2 l2 e2']) ∧ RdP w1 b ts r1 (24 - ((24 : Nat) : Int))), (fun v w1 => ∃ (g : Nat) (cs : List Value), v = .slice (some ⟨g, 0, none⟩) 1 1 ∧ w21.heap.size ≤ g ∧ g < w1.heap.size ∧ cs.length = 4 ∧ w1.rangeAt g 0 cs ∧ CellsAt w1 (fun q => w21.heap.size ≤ q) (opC xx) cs ∧ RdP w1 b ts r1 (24 - ((24 : Nat) : Int))), (fun v w1 => OwnTwo w1 (Rb + 1) 39 53 4 3 v (.slice aL acc.frags.length cL) (acc.ops.map opC ++ [opC xx]) (acc.frags.map frC) ∧ (∀ q, v.ownBlock = some q → (Value.slice aK acc.ops.length cK).ownBlock = some q ∨ w21.heap.size ≤ q) ∧ RdP w1 b ts r1 (24 - ((24 : Nat) : Int))), (fun v _ => v = (.pointer (some ⟨D, 0, none⟩)))] rfl ⟨?_, ?_, ?_, ?_, ?_, ?_, ?_, trivial⟩ _ rfl ⟨?_, ?_, ?_, ?_, ?_, ?_, ?_, trivial⟩ ?_
              · exact Stable.is _ _
              · exact Stable.is _ _
              · exact Stable.is _ _
              · intro v w1 w2 h ho
                have ho : Only (fun q => (Value.slice aK acc.ops.length cK).ownBlock = some q) w1 w2 := ho
                exact (by obtain ⟨⟨bo, s0, a1, l1, e1', a2, l2, e2', e1, e2⟩, e3⟩ := h; exact ⟨⟨bo, s0, a1, l1, e1', a2, l2, e2', e1, CellsAt.only ho (fun q hq hk => by have := (HFK21.out q hk).2; have hq : w21.heap.size ≤ q := hq; omega) _ _ e2⟩, e3.only ho (fun k hk h => by have := (HFK21.out k h).1; omega)⟩)
              · intro v w1 w2 h ho
                have ho : Only (fun q => (Value.slice aK acc.ops.length cK).ownBlock = some q) w1 w2 := ho
                exact (by obtain ⟨g, cs, e1, e2, e3, e4, e5, e6, e7⟩ := h; have hng : ¬ (Value.slice aK acc.ops.length cK).ownBlock = some g := fun hk => (by have := (HFK21.out g hk).2; omega); exact ⟨g, cs, e1, e2, Nat.lt_of_lt_of_le e3 ho.size, e4, range_keep e5 e3 ho hng, CellsAt.only ho (fun q hq hk => by have := (HFK21.out q hk).2; have hq : w21.heap.size ≤ q := hq; omega) _ _ e6, e7.only ho (fun k hk h => by have := (HFK21.out k h).1; omega)⟩)
              · intro v w1 w2 h ho
                have ho : Only (fun _ => False) w1 w2 := ho
                exact (by obtain ⟨e1, e2, e3⟩ := h; exact ⟨e1.only ho (fun _ _ _ h => h), e2, e3.still ho⟩)
              · exact Stable.is _ _
              · intro x wx ox hN TT HTT
                have ox : Only (fun q => (fun q => q = b) q ∨ (fun q => (Value.slice aK acc.ops.length cK).ownBlock = some q) q) _ wx := ox
                clear hN
                unfold StepTo
                simp only [putAll, Act.put, List.setIfInBounds_toArray, List.set_cons_succ, List.set_cons_zero]
                go_wp2_with fail
                exact ⟨rfl, _, rfl, HTT.out _ _ (rfl) (Only.refl _ _)⟩
              · intro x wx ox hN TT HTT
                have ox : Only (fun q => (fun q => q = b) q ∨ (fun q => (Value.slice aK acc.ops.length cK).ownBlock = some q) q) _ wx := ox
                have r27 : x 0 = (.pointer (some ⟨D, 0, none⟩)) := hN.1 rfl
                clear hN
                unfold StepTo
                simp only [putAll, Act.put, List.setIfInBounds_toArray, List.set_cons_succ, List.set_cons_zero, r27]
                clear r27
                have hx := (ox.block D (Array.getElem?_eq_some_iff.1 HD21.out).1 (fun h => by rcases h with h | h; have h : D = b := h; omega; (have := (HFK21.out _ h).1; omega))).trans HD21.out
                obtain ⟨y0, y1, yz⟩ := boxN2 hx
                clear hx
                go_wp2_with fail
                exact ⟨rfl, _, rfl, HTT.out _ _ (rfl) (Only.refl _ _)⟩
              · intro x wx ox hN TT HTT
                have ox : Only (fun _ => False) _ wx := ox
                clear hN
                unfold StepTo
                simp only [putAll, Act.put, List.setIfInBounds_toArray, List.set_cons_succ, List.set_cons_zero]
                have hx := (ox.block Rb (Array.getElem?_eq_some_iff.1 HR21.out).1 (fun h => h)).trans HR21.out
                obtain ⟨cR, fR⟩ := box1 hx
                clear hx
                go_wp2_with fail
                exact ⟨rfl, _, rfl, HTT.out _ _ (rfl) (Only.refl _ _)⟩
              · intro x wx ox hN TT HTT
                have ox : Only (fun _ => False) _ wx := ox
                have r29 : x 2 = (.pointer (some ⟨b, 0, none⟩)) := hN.1 rfl
                clear hN
                unfold StepTo
                simp only [putAll, Act.put, List.setIfInBounds_toArray, List.set_cons_succ, List.set_cons_zero, r29]
                clear r29
                have hsl : w21.heap.size ≤ wx.heap.size := ox.size
                have ht := J.out wx (((Only.refl _ w21).drew).trans ox)
                have HT := Lib.hid ht; have HSL := Lib.hid hsl; clear ht hsl
                go_wp2_with fail
                refine HT.out.mono ?_
                rintro e w6 ⟨v6, rfl, ⟨cs6, rfl, hv6⟩, h6, o6⟩
                obtain ⟨bo, s0, a1, l1, e1', a2, l2, e2', rfl⟩ := opC_form2 hv6
                have H6 := Lib.hid h6; have O6 := Lib.hid o6; have HV6 := Lib.hid hv6; clear h6 o6 hv6
                go_wp2_with fail
                exact ⟨rfl, _, rfl, HTT.out _ _ (⟨⟨bo, s0, a1, l1, e1', a2, l2, e2', rfl, CellsAt.weaken (fun q _ h => Nat.le_trans HSL.out h) _ _ HV6.out⟩, H6.out⟩) (O6.out)⟩
              · intro x wx ox hN TT HTT
                have ox : Only (fun q => (fun q => q = b) q ∨ (fun q => (Value.slice aK acc.ops.length cK).ownBlock = some q) q) _ wx := ox
                have r30 : (fun (v : Value) (w1 : World) => (∃ bo s0 a1 l1 e1' a2 l2 e2', v = .agg #[.bool bo, .string ⟨(s0 : List UInt8).toArray⟩, .slice a1 l1 e1', .slice a2 l2 e2'] ∧ CellsAt w1 (fun q => w21.heap.size ≤ q) (opC xx) [.bool bo, .string ⟨s0.toArray⟩, .slice a1 l1 e1', .slice a2 l2 e2']) ∧ RdP w1 b ts r1 (24 - ((24 : Nat) : Int))) (x 3) wx := hN.1 rfl
                clear hN
                unfold StepTo
                simp only [putAll, Act.put, List.setIfInBounds_toArray, List.set_cons_succ, List.set_cons_zero]
                obtain ⟨⟨bo, s0, a1, l1, e1', a2, l2, e2', e1, e2⟩, e3⟩ := r30
                simp only [e1]
                have hn := heap_new wx (.cells #[.bool bo, .string ⟨s0.toArray⟩, .slice a1 l1 e1', .slice a2 l2 e2'] 39)
                have on := (Only.refl (fun _ => False) wx).alloc (.cells #[.bool bo, .string ⟨s0.toArray⟩, .slice a1 l1 e1', .slice a2 l2 e2'] 39)
                have hgl : w21.heap.size ≤ wx.heap.size := ox.size
                have H3 := Lib.hid e3; have HNB := Lib.hid hn; have ON := Lib.hid on; have HGL2 := Lib.hid hgl; have HV2 := Lib.hid e2; clear e1 e2 e3 hn on hgl
                go_wp2_with fail
                exact ⟨rfl, _, rfl, HTT.out _ _ (⟨wx.heap.size, _, rfl, HGL2.out, by simp, rfl, range_of_block HNB.out, CellsAt.only ON.out (fun _ _ h => h) _ _ HV2.out, H3.out.still ON.out⟩) (ON.out)⟩
              · intro x wx ox hN TT HTT
                have ox : Only (fun q => q = b) _ wx := ox
                have r28 : x 1 = (.slice aK acc.ops.length cK) := hN.1 rfl
                have r31 : (fun (v : Value) (w1 : World) => ∃ (g : Nat) (cs : List Value), v = .slice (some ⟨g, 0, none⟩) 1 1 ∧ w21.heap.size ≤ g ∧ g < w1.heap.size ∧ cs.length = 4 ∧ w1.rangeAt g 0 cs ∧ CellsAt w1 (fun q => w21.heap.size ≤ q) (opC xx) cs ∧ RdP w1 b ts r1 (24 - ((24 : Nat) : Int))) (x 4) wx := hN.2.1 rfl
                have r30 : (fun (v : Value) (w1 : World) => (∃ bo s0 a1 l1 e1' a2 l2 e2', v = .agg #[.bool bo, .string ⟨(s0 : List UInt8).toArray⟩, .slice a1 l1 e1', .slice a2 l2 e2'] ∧ CellsAt w1 (fun q => w21.heap.size ≤ q) (opC xx) [.bool bo, .string ⟨s0.toArray⟩, .slice a1 l1 e1', .slice a2 l2 e2']) ∧ RdP w1 b ts r1 (24 - ((24 : Nat) : Int))) (x 3) wx := hN.2.2.1 rfl
                clear hN
                unfold StepTo
                simp only [putAll, Act.put, List.setIfInBounds_toArray, List.set_cons_succ, List.set_cons_zero, r28]
                clear r28
                obtain ⟨g, cs, e1, e2, e3, e4, e5, e6, e7⟩ := r31
                simp only [e1]
                have htw := (HW21.out.only (((Only.refl _ w21).drew).trans ox) (fun k h1 h2 e => by have e : k = b := e; omega)).swap
                obtain ⟨xs, p1, p2⟩ := htw.l
                have hys : ∀ j u, cs[j]? = some u → wx.cell? ((⟨g, 0, none⟩ : Addr).add j) = some u := fun j u hu => by rw [addr_add]; exact e5 j u hu
                have hone : ∀ u ∈ cs, u.oneCell' = true := CellsAt.one e6
                have hsl : w21.heap.size ≤ wx.heap.size := ox.size
                have hkb : (acc.ops.length + 1) ≤ 1000001 := by have h2 := HFEW.out; omega
                have HTW := Lib.hid htw; have HP1 := Lib.hid p1; have HP2 := Lib.hid p2; have HYS := Lib.hid hys; have HSL := Lib.hid hsl; have HKB2 := Lib.hid hkb; have H6 := Lib.hid e7; have HV6 := Lib.hid e6; have HONE := Lib.hid hone; clear p1 p2 hys hsl hkb e7 e6 e5 e1 hone htw
                rw [List.length_map] at HP1
                go_wp2_with ((refine wpList_append_own2 (o := ⟨some 32, _, _, _, _, _⟩) rfl (.tmp 28) (.tmp 31) 23 39 (by rfl) Tryd.underlying23 infoO rfl (by decide) (Rb + 1) (.slice aK acc.ops.length cK) acc.ops.length 1 1 xs cs ⟨g, 0, none⟩ (by rfl) (by rfl) HP1.out (by rw [e4]) HYS.out HONE.out (by have := HKB2.out; unfold maxLen; omega) (by have := HKB2.out; omega) (by have := HSL.out; have := (Array.getElem?_eq_some_iff.1 HR21.out).1; omega) ?_; intro v' w9 q1 q2 q3))
                have hv8 : CellsAt wx (fun q => (Rb + 1 ≤ q ∧ (Value.slice aK acc.ops.length cK).ownBlock ≠ some q ∧ q < wx.heap.size) ∧ (Value.slice aL acc.frags.length cL).ownBlock ≠ some q) (opC xx) cs := CellsAt.weaken (fun q hq h => by have h : w21.heap.size ≤ q := h; have := (Array.getElem?_eq_some_iff.1 HR21.out).1; exact ⟨⟨by omega, fun hv => (by have := (HFK21.out q hv).2; omega), hq⟩, fun hv => (by have := (HFL21.out q hv).2; omega)⟩) _ _ HV6.out
                have hp1 := HP1.out; have hp2 := HP2.out
                have hrow := OwnTwo.append (r := opC xx) HTW.out (by rw [List.length_map]; exact hp1) hp2 e4 hv8 (by rw [List.length_map]; exact q1) q2 q3
                exact ⟨rfl, _, rfl, HTT.out _ _ (⟨hrow.swap, fun q hq => (q3 q hq).imp id (fun h => Nat.le_trans HSL.out h), H6.out.only q2 (fun k hk h => by have := (HFK21.out k h).1; omega)⟩) (q2)⟩
              · intro x wx ox hN TT HTT
                have ox : Only (fun q => (fun q => q = b) q ∨ (fun q => (Value.slice aK acc.ops.length cK).ownBlock = some q) q) _ wx := ox
                have r27 : x 0 = (.pointer (some ⟨D, 0, none⟩)) := hN.1 rfl
                have r28 : x 1 = (.slice aK acc.ops.length cK) := hN.2.1 rfl
                have r29 : x 2 = (.pointer (some ⟨b, 0, none⟩)) := hN.2.2.1 rfl
                have r30 : (fun (v : Value) (w1 : World) => (∃ bo s0 a1 l1 e1' a2 l2 e2', v = .agg #[.bool bo, .string ⟨(s0 : List UInt8).toArray⟩, .slice a1 l1 e1', .slice a2 l2 e2'] ∧ CellsAt w1 (fun q => w21.heap.size ≤ q) (opC xx) [.bool bo, .string ⟨s0.toArray⟩, .slice a1 l1 e1', .slice a2 l2 e2']) ∧ RdP w1 b ts r1 (24 - ((24 : Nat) : Int))) (x 3) wx := hN.2.2.2.1 rfl
                have r31 : (fun (v : Value) (w1 : World) => ∃ (g : Nat) (cs : List Value), v = .slice (some ⟨g, 0, none⟩) 1 1 ∧ w21.heap.size ≤ g ∧ g < w1.heap.size ∧ cs.length = 4 ∧ w1.rangeAt g 0 cs ∧ CellsAt w1 (fun q => w21.heap.size ≤ q) (opC xx) cs ∧ RdP w1 b ts r1 (24 - ((24 : Nat) : Int))) (x 4) wx := hN.2.2.2.2.1 rfl
                have r32 : (fun (v : Value) (w1 : World) => OwnTwo w1 (Rb + 1) 39 53 4 3 v (.slice aL acc.frags.length cL) (acc.ops.map opC ++ [opC xx]) (acc.frags.map frC) ∧ (∀ q, v.ownBlock = some q → (Value.slice aK acc.ops.length cK).ownBlock = some q ∨ w21.heap.size ≤ q) ∧ RdP w1 b ts r1 (24 - ((24 : Nat) : Int))) (x 5) wx := hN.2.2.2.2.2.1 rfl
                clear hN
                unfold StepTo
                simp only [putAll, Act.put, List.setIfInBounds_toArray, List.set_cons_succ, List.set_cons_zero, r27, r28, r29]
                clear r27 r28 r29
                go_wp2_with fail
                exact ⟨rfl, _, rfl, HTT.out _ _ (rfl) (Only.refl _ _)⟩
              intro xz wxz oxz hN
              have oxz : Only (fun q => (fun q => q = b) q ∨ (fun q => (Value.slice aK acc.ops.length cK).ownBlock = some q) q) _ wxz := oxz
              have r27 : xz 0 = (.pointer (some ⟨D, 0, none⟩)) := hN.1
              have r28 : xz 1 = (.slice aK acc.ops.length cK) := hN.2.1
              have r29 : xz 2 = (.pointer (some ⟨b, 0, none⟩)) := hN.2.2.1
              have r30 : (fun (v : Value) (w1 : World) => (∃ bo s0 a1 l1 e1' a2 l2 e2', v = .agg #[.bool bo, .string ⟨(s0 : List UInt8).toArray⟩, .slice a1 l1 e1', .slice a2 l2 e2'] ∧ CellsAt w1 (fun q => w21.heap.size ≤ q) (opC xx) [.bool bo, .string ⟨s0.toArray⟩, .slice a1 l1 e1', .slice a2 l2 e2']) ∧ RdP w1 b ts r1 (24 - ((24 : Nat) : Int))) (xz 3) wxz := hN.2.2.2.1
              have r31 : (fun (v : Value) (w1 : World) => ∃ (g : Nat) (cs : List Value), v = .slice (some ⟨g, 0, none⟩) 1 1 ∧ w21.heap.size ≤ g ∧ g < w1.heap.size ∧ cs.length = 4 ∧ w1.rangeAt g 0 cs ∧ CellsAt w1 (fun q => w21.heap.size ≤ q) (opC xx) cs ∧ RdP w1 b ts r1 (24 - ((24 : Nat) : Int))) (xz 4) wxz := hN.2.2.2.2.1
              have r32 : (fun (v : Value) (w1 : World) => OwnTwo w1 (Rb + 1) 39 53 4 3 v (.slice aL acc.frags.length cL) (acc.ops.map opC ++ [opC xx]) (acc.frags.map frC) ∧ (∀ q, v.ownBlock = some q → (Value.slice aK acc.ops.length cK).ownBlock = some q ∨ w21.heap.size ≤ q) ∧ RdP w1 b ts r1 (24 - ((24 : Nat) : Int))) (xz 5) wxz := hN.2.2.2.2.2.1
              have r33 : xz 6 = (.pointer (some ⟨D, 0, none⟩)) := hN.2.2.2.2.2.2.1
              clear hN
              simp only [putAll, Act.put, List.setIfInBounds_toArray, List.set_cons_succ, List.set_cons_zero, r27, r28, r29, r33]
              clear r27 r28 r29 r33
              obtain ⟨q1, q2, q5⟩ := r32
              obtain ⟨aN, cN, eN, gL1, gL2, gL3⟩ := q1.left.form
              rw [List.length_append, List.length_map, List.length_singleton] at eN gL1
              rw [eN] at q1 q2 gL3 ⊢
              have gN2 : cN ≤ 9223372036854775807 := by unfold maxLen at gL2; omega
              have hmv : ∀ k, k ≤ Rb → k ≠ b → k < w21.heap.size → wxz.heap[k]? = w21.heap[k]? := fun k hk hkb hks => oxz.block k hks (fun h => by rcases h with h | h; exact hkb h; (have := (HFK21.out _ h).1; omega))
              have hDb := (hmv D (by omega) (by omega) (Array.getElem?_eq_some_iff.1 HD21.out).1).trans HD21.out
              have hAb := (hmv A (by omega) (by omega) (Array.getElem?_eq_some_iff.1 HA21.out).1).trans HA21.out
              have hEb := (hmv E (by omega) (by omega) (Array.getElem?_eq_some_iff.1 HE21.out).1).trans HE21.out
              have hRb := (hmv Rb (by omega) (by omega) (Array.getElem?_eq_some_iff.1 HR21.out).1).trans HR21.out
              have hD6 := heap_set (o := 0) hDb (.slice aN (acc.ops.length + 1) cN)
              have hD6 : (wxz.setCell ⟨D, 0, none⟩ (.slice aN (acc.ops.length + 1) cN)).heap[D]? = some (.cells #[.slice aN (acc.ops.length + 1) cN, .slice aL acc.frags.length cL] 26 (0, 0)) := by simpa using hD6
              have o6 := (Only.refl (fun k => k = D) wxz).setCell (p := ⟨D, 0, none⟩) (.inl rfl) (.slice aN (acc.ops.length + 1) cN)
              have hA6 := (o6.block A (Array.getElem?_eq_some_iff.1 hAb).1 (by omega)).trans hAb
              have hE6 := (o6.block E (Array.getElem?_eq_some_iff.1 hEb).1 (by omega)).trans hEb
              have hR6 := (o6.block Rb (Array.getElem?_eq_some_iff.1 hRb).1 (by omega)).trans hRb
              have hrd6 : RdP (wxz.setCell ⟨D, 0, none⟩ (.slice aN (acc.ops.length + 1) cN)) b ts r1 (24 - ((24 : Nat) : Int)) := rdP_old q5 o6 (by omega) (fun g' off n c' hcc => q5.apart hDb (slices_no _ _ _ _ _ _) hcc)
              have hob : Only (fun q => q = b ∨ q = D ∨ (Value.slice aK acc.ops.length cK).ownBlock = some q) w21 (wxz.setCell ⟨D, 0, none⟩ (.slice aN (acc.ops.length + 1) cN)) := ((((Only.refl _ w21).drew).trans' oxz (fun q _ h => h.imp id .inr)).trans' o6 (fun q _ h => .inr (.inl h)))
              have hW6 := q1.only o6 (fun k h1 h2 e => by have e : k = D := e; omega)
              have hO6 : Only (fun _ => False) w (wxz.setCell ⟨D, 0, none⟩ (.slice aN (acc.ops.length + 1) cN)) := HO21.out.trans' hob (fun q hq h => by have := HWD.out; rcases h with h | h | h; omega; omega; (have := (HFK21.out q h).1; omega))
              obtain ⟨y0, y1, yz⟩ := boxN2 hDb
              obtain ⟨wn, hwn⟩ : ∃ x, wxz.setCell ⟨D, 0, none⟩ (.slice aN (acc.ops.length + 1) cN) = x := ⟨_, rfl⟩
              rw [hwn] at hD6 hA6 hE6 hR6 hrd6 hW6 hO6
              have HDn := Lib.hid hD6; have HAn := Lib.hid hA6; have HEn := Lib.hid hE6; have HRn := Lib.hid hR6; have HRdn := Lib.hid hrd6; have HWn := Lib.hid hW6; have HOn := Lib.hid hO6; have HWN := Lib.hid hwn
              have Kn := Lib.hid (kind_any b ts r1 _ 0 wn hrd6 (by decide))
              clear hDb hAb hEb hRb hD6 o6 hA6 hE6 hR6 hrd6 hob hW6 hO6 hwn hmv q1 q2 q5 gL2 gL3 eN oxz J
              go_upto_region 9 with (fail)
              rw [HWN.out]
              clear HWN y0 y1 yz
              obtain ⟨cR, fR⟩ := box1 HRn.out
              cases hk : isK 0 r1 with
              | true =>
                rw [hk] at Kn
                have hdone : R = .ok ⟨acc.ops ++ [xx], acc.frags⟩ r1 := by have := HNEW.out; rw [if_pos hk] at this; exact this.symm
                have HDONE := Lib.hid hdone; clear hk hdone
                go_wp2_with fail
                refine Kn.out.mono ?_
                rintro e w30 ⟨rfl, o30⟩
                have h30 := HRdn.out.still o30
                have hpos30 := h30.pos
                have hi : DocI w D A E Rb b ts R false w30 := ⟨⟨acc.ops ++ [xx], acc.frags⟩, r1, _, _, (o30.block D (Array.getElem?_eq_some_iff.1 HDn.out).1 (fun h => h)).trans HDn.out, (o30.block A (Array.getElem?_eq_some_iff.1 HAn.out).1 (fun h => h)).trans HAn.out, (o30.block E (Array.getElem?_eq_some_iff.1 HEn.out).1 (fun h => h)).trans HEn.out, (o30.block Rb (Array.getElem?_eq_some_iff.1 HRn.out).1 (fun h => h)).trans HRn.out, by rw [List.map_append, List.map_singleton]; exact HWn.out.only o30 (fun _ _ _ h => h), h30, HOn.out.trans o30, by have h1 := HFEW.out; have h2 := HLT.out; simp only [List.length_append, List.length_singleton]; omega, (fun h => by cases h), fun _ => HDONE.out⟩
                have HI2 := Lib.hid hi; have HPX := Lib.hid hpos30
                clear hi hpos30 h30 o30
                go_wp2_with fail
                go_roundw
                case rel => first | exact ⟨false, rfl, HI2⟩ | ((repeat apply Exists.intro); refine ⟨?_, rfl⟩; exact ⟨false, rfl, HI2⟩)
                case measure => have h1 := HPOS.out; have h2 := HPX.out; have h3 := HLT.out; omega
              | false =>
                rw [hk] at Kn
                have hgo : docF n ⟨acc.ops ++ [xx], acc.frags⟩ r1 = R := by have := HNEW.out; rw [if_neg (by rw [hk]; decide)] at this; exact this
                have HGO := Lib.hid hgo; clear hk hgo
                go_wp2_with fail
                refine Kn.out.mono ?_
                rintro e w30 ⟨rfl, o30⟩
                have h30 := HRdn.out.still o30
                have hpos30 := h30.pos
                have hi : DocI w D A E Rb b ts R true w30 := ⟨⟨acc.ops ++ [xx], acc.frags⟩, r1, _, _, (o30.block D (Array.getElem?_eq_some_iff.1 HDn.out).1 (fun h => h)).trans HDn.out, (o30.block A (Array.getElem?_eq_some_iff.1 HAn.out).1 (fun h => h)).trans HAn.out, (o30.block E (Array.getElem?_eq_some_iff.1 HEn.out).1 (fun h => h)).trans HEn.out, (o30.block Rb (Array.getElem?_eq_some_iff.1 HRn.out).1 (fun h => h)).trans HRn.out, by rw [List.map_append, List.map_singleton]; exact HWn.out.only o30 (fun _ _ _ h => h), h30, HOn.out.trans o30, by have h1 := HFEW.out; have h2 := HLT.out; simp only [List.length_append, List.length_singleton]; omega, (fun _ => ⟨n, by have h1 := HN.out; have h2 := HLT.out; omega, HGO.out⟩), fun h => by cases h⟩
                have HI2 := Lib.hid hi; have HPX := Lib.hid hpos30
                clear hi hpos30 h30 o30
                go_wp2_with fail
                go_roundw
                case rel => first | exact ⟨true, rfl, HI2⟩ | ((repeat apply Exists.intro); refine ⟨?_, rfl⟩; exact ⟨true, rfl, HI2⟩)
                case measure => have h1 := HPOS.out; have h2 := HPX.out; have h3 := HLT.out; omega
end Go.Proofs.YtgephneppgcnlaaDoor
