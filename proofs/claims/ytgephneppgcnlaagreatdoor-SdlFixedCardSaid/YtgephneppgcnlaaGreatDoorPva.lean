/- parse.reader.value: a value. -/
import Derived.Test.YtgephneppgcnlaaGreatDoorPvh
namespace Go.Proofs.YtgephneppgcnlaaGreatDoor
open Go Go.RowKit
set_option linter.unusedVariables false
set_option linter.unusedSimpArgs false

set_option maxRecDepth 100000 in
set_option maxHeartbeats 80000000 in
theorem value_zero (fixed : Bool) (b : Nat) (all r : List Tok) (w : World) (h : RdP w b all r (24 - ((0 : Nat) : Int))) :
    Calls Tryz.prog 75 #[.pointer (some ⟨b, 0, none⟩), .bool fixed] w (Ans w b all (24 - ((0 : Nat) : Int)) (aggP w.heap.size valC) (valueP fixed 0 r)) := by
    have HD := Lib.hid (down_bad b all r (24 - ((0 : Nat) : Int)) (w.alloc (.cells #[.int .u8 0, .int .i64 0, .string ⟨#[]⟩, .slice none 0 0, .slice none 0 0] 37)) (h.still ((Only.refl (fun _ => False) w).alloc _)) (by decide) (by decide))
    have HP : ∀ w2, RdP w2 b all r (24 - ((0 : Nat) : Int) + 1) → Only (fun k => k = b) w w2 → Ans w b all (24 - ((0 : Nat) : Int)) (aggP w.heap.size valC) (valueP fixed 0 r) (.panicked (faultV 5)) w2 := fun w2 h o => ⟨rfl, ⟨r, _, h, rfl, by omega, by omega⟩, o⟩
    have HPP := Lib.hid HP; clear HP h
    generalize (Ans w b all (24 - ((0 : Nat) : Int)) (aggP w.heap.size valC) (valueP fixed 0 r)) = Q at *
    go_enter_defers Tryz.func75, Tryz.ntmps75
    go_wp2_with fail
    refine HD.out.mono ?_
    rintro e w2 ⟨rfl, h2, o2⟩
    exact HPP.out _ h2 (((Only.refl (fun k => k = b) w).alloc _).trans o2)
set_option maxRecDepth 100000 in
set_option maxHeartbeats 80000000 in
theorem value_succ (fixed : Bool) (d : Nat) (value_any : ∀ (b : Nat) (all r : List Tok) (w : World), d ≤ 24 → RdP w b all r (24 - (d : Int)) →
    Calls Tryz.prog 75 #[.pointer (some ⟨b, 0, none⟩), .bool fixed] w (Ans w b all (24 - (d : Int)) (aggP w.heap.size valC) (valueP fixed d r))) (b : Nat) (all r : List Tok) (w : World) (hd : d + 1 ≤ 24) (h : RdP w b all r (24 - ((d + 1 : Nat) : Int))) :
    Calls Tryz.prog 75 #[.pointer (some ⟨b, 0, none⟩), .bool fixed] w (Ans w b all (24 - ((d + 1 : Nat) : Int)) (aggP w.heap.size valC) (valueP fixed (d + 1) r)) := by
    have hbl := h.lt
    have HD := Lib.hid (down_ok b all r (24 - ((d + 1 : Nat) : Int)) (w.alloc (.cells #[.int .u8 0, .int .i64 0, .string ⟨#[]⟩, .slice none 0 0, .slice none 0 0] 37)) (h.still ((Only.refl (fun _ => False) w).alloc _)) (by omega) (by omega))
    have IH := Lib.hid (fun b all r w => value_any b all r w (by omega))
    have hres := heap_new w (.cells #[.int .u8 0, .int .i64 0, .string ⟨#[]⟩, .slice none 0 0, .slice none 0 0] 37)
    have hO0 : Only (fun k => k = b) w (w.alloc (.cells #[.int .u8 0, .int .i64 0, .string ⟨#[]⟩, .slice none 0 0, .slice none 0 0] 37)) := (Only.refl (fun k => k = b) w).alloc _
    obtain ⟨B, hB⟩ : ∃ B, w.heap.size = B := ⟨_, rfl⟩
    have hwB : w.heap.size ≤ B := by omega
    have hbB : b < B := by omega
    obtain ⟨dp, hdp⟩ : ∃ dp : Int, 24 - ((d + 1 : Nat) : Int) = dp := ⟨_, rfl⟩
    have hdp1 : 24 - (d : Int) = dp + 1 := by omega
    have HQ : ∀ e w', Ans w b all dp (aggP w.heap.size valC) (valueP fixed (d + 1) r) e w' → Ans w b all (24 - ((d + 1 : Nat) : Int)) (aggP w.heap.size valC) (valueP fixed (d + 1) r) e w' := fun e w' h => by rw [hdp]; exact h
    refine Calls.mono ?_ HQ
    rw [hdp] at HD
    have hdb1 : 0 ≤ dp := by omega
    have hdb2 : dp < 24 := by omega
    rw [hdp1] at IH
    clear HQ
    obtain ⟨Q, hQ⟩ : ∃ Q, Ans w b all dp (aggP w.heap.size valC) (valueP fixed (d + 1) r) = Q := ⟨_, rfl⟩
    have HQ := Lib.hid hQ; have HRES := Lib.hid hres; have HO0 := Lib.hid hO0; have HBB := Lib.hid hB
    show Calls Tryz.prog _ _ w (Ans w b all dp (aggP w.heap.size valC) (valueP fixed (d + 1) r))
    rw [hQ]
    clear hQ h hres hO0 hdp hdp1 hB
    go_enter_defers Tryz.func75, Tryz.ntmps75
    go_wp2_with fail
    refine HD.out.mono ?_
    rintro e w2 ⟨rfl, h2, o2⟩
    have hr2 := o2.block B (by simp; have := HBB.out; omega) (by omega)
    rw [HBB.out] at HRES
    rw [HRES.out] at hr2
    obtain ⟨g, off, c, N, t, r', rfl, i, c0, c1, c2, fz, hi, hc, hN, hcm, a1, a2, a3, a4⟩ := h2.next
    have fb : ∀ a c w' r'' dp', valueB fixed (valueP fixed d) (t :: r') = .bad a c → RdP w' b all r'' dp' → atT r'' = a → dp ≤ dp' → dp' ≤ dp + 1 → Only (fun k => k = b) w w' → Q (.panicked (faultV c)) w' := fun a c w' r'' dp' e h1 h2 h3 h4 h5 => by
      rw [← HQ.out, valueP, e]; exact ⟨rfl, ⟨r'', dp', h1, h2, h3, h4⟩, h5⟩
    have fo : ∀ x r'' w' v, valueB fixed (valueP fixed d) (t :: r') = .ok x r'' → aggP B valC w' x v → RdP w' b all r'' dp → Only (fun k => k = b) w w' → Q (.returned v) w' := fun x r'' w' v e h1 h2 h3 => by
      rw [← HQ.out, valueP, e]; exact ⟨v, rfl, by rw [HBB.out]; exact h1, h2, h3⟩
    have cf : ∀ w', Only (fun _ => False) w2 w' → w'.cell? ⟨b, 0, none⟩ = some (.slice (some ⟨g, off, none⟩) N c) ∧ w'.cell? ⟨b, 1, none⟩ = some (.int .i64 (i : Int)) ∧ w'.cell? ⟨g, off + i * 4, none⟩ = some (.int .u8 (t.kind : Int)) ∧ w'.cell? ⟨g, off + i * 4 + 1, none⟩ = some (.string ⟨t.text.toArray⟩) ∧ w'.cell? ⟨g, off + i * 4 + 2, none⟩ = some (.int .i64 t.n) ∧ w'.cell? ⟨g, off + i * 4 + 3, none⟩ = some (.int .i64 (t.at_ : Int)) := fun w' o =>
      ⟨by rw [cell_keep o (cell_lt c0) (fun h => h)]; exact c0, by rw [cell_keep o (cell_lt c1) (fun h => h)]; exact c1, by rw [cell_keep o (cell_lt a1) (fun h => h)]; exact a1, by rw [cell_keep o (cell_lt a2) (fun h => h)]; exact a2, by rw [cell_keep o (cell_lt a3) (fun h => h)]; exact a3, by rw [cell_keep o (cell_lt a4) (fun h => h)]; exact a4⟩
    have hsz : B < w2.heap.size := (Array.getElem?_eq_some_iff.1 hr2).1
    have FB := Lib.hid fb; have FO := Lib.hid fo; have CF := Lib.hid cf; have H2 := Lib.hid h2; have O2 := Lib.hid (HO0.out.trans o2); have HR2 := Lib.hid hr2
    clear fb fo cf HQ h2 o2 hr2 c0 c1 c2 fz a1 a2 a3 a4 HD HRES HO0
    go_upto_region 3 with (fail)
    rw [HBB.out]
    clear HBB
    have hiN : (i : Int) < (N : Int) := by omega
    refine wp_region_steps 11 (by kernel_rfl) rfl (by kernel_rfl) [some 11, some 12, some 13, some 14, some 15, some 16, some 17, some 18, some 19, some 20, some 5] rfl rfl (fun _ => False) [(fun v _ => v = (.pointer (some ⟨b, 0, none⟩))), (fun v _ => v = (.pointer (some ⟨b, 0, none⟩))), (fun v _ => v = (.pointer (some ⟨b, 0, none⟩))), (fun v _ => v = (.slice (some ⟨g, off, none⟩) N c)), (fun v _ => v = (.pointer (some ⟨b, 0, none⟩))), (fun v _ => v = (.pointer (some ⟨b, 0, none⟩))), (fun v _ => v = (.pointer (some ⟨b, 1, none⟩))), (fun v _ => v = (.int .i64 (i : Int))), (fun v _ => v = (.pointer (some ⟨g, off + i * 4, none⟩))), (fun v _ => v = (.agg #[.int .u8 (t.kind : Int), .string ⟨t.text.toArray⟩, .int .i64 t.n, .int .i64 (t.at_ : Int)])), (fun v wv => ∃ X, v = .pointer (some ⟨X, 0, none⟩) ∧ B < X ∧ wv.heap[X]? = some (.cells [.int .u8 0, .string ⟨#[]⟩, .int .i64 0, .int .i64 0].toArray 50 (0, 0)))] rfl ⟨?_, ?_, ?_, ?_, ?_, ?_, ?_, ?_, ?_, ?_, ?_, trivial⟩ _ rfl ⟨?_, ?_, ?_, ?_, ?_, ?_, ?_, ?_, ?_, ?_, ?_, trivial⟩ ?_
    · exact Stable.is _ _
    · exact Stable.is _ _
    · exact Stable.is _ _
    · exact Stable.is _ _
    · exact Stable.is _ _
    · exact Stable.is _ _
    · exact Stable.is _ _
    · exact Stable.is _ _
    · exact Stable.is _ _
    · exact Stable.is _ _
    · exact (fun v w1 w2 h ho => by obtain ⟨X, e, hX, hc⟩ := h; exact ⟨X, e, hX, by rw [ho.block X (Array.getElem?_eq_some_iff.1 hc).1 (fun h => h)]; exact hc⟩)
    · intro x wx ox hN TT HTT
      clear hN
      unfold StepTo
      simp only [putAll, Act.put, List.setIfInBounds_toArray, List.set_cons_succ, List.set_cons_zero]
      go_wp2_with fail
      exact ⟨rfl, _, rfl, HTT.out _ _ (rfl) (Only.refl _ _)⟩
    · intro x wx ox hN TT HTT
      have r11 : x 0 = (.pointer (some ⟨b, 0, none⟩)) := hN.1 rfl
      clear hN
      unfold StepTo
      simp only [putAll, Act.put, List.setIfInBounds_toArray, List.set_cons_succ, List.set_cons_zero, r11]
      clear r11
      go_wp2_with fail
      exact ⟨rfl, _, rfl, HTT.out _ _ (rfl) (Only.refl _ _)⟩
    · intro x wx ox hN TT HTT
      have r12 : x 1 = (.pointer (some ⟨b, 0, none⟩)) := hN.1 rfl
      clear hN
      unfold StepTo
      simp only [putAll, Act.put, List.setIfInBounds_toArray, List.set_cons_succ, List.set_cons_zero, r12]
      clear r12
      go_wp2_with fail
      exact ⟨rfl, _, rfl, HTT.out _ _ (rfl) (Only.refl _ _)⟩
    · intro x wx ox hN TT HTT
      have r13 : x 2 = (.pointer (some ⟨b, 0, none⟩)) := hN.1 rfl
      clear hN
      unfold StepTo
      simp only [putAll, Act.put, List.setIfInBounds_toArray, List.set_cons_succ, List.set_cons_zero, r13]
      clear r13
      obtain ⟨x0, x1, x2, x3, x4, x5⟩ := CF.out wx (((Only.refl _ w2).drew).trans ox)
      go_wp2_with fail
      exact ⟨rfl, _, rfl, HTT.out _ _ (rfl) (Only.refl _ _)⟩
    · intro x wx ox hN TT HTT
      clear hN
      unfold StepTo
      simp only [putAll, Act.put, List.setIfInBounds_toArray, List.set_cons_succ, List.set_cons_zero]
      go_wp2_with fail
      exact ⟨rfl, _, rfl, HTT.out _ _ (rfl) (Only.refl _ _)⟩
    · intro x wx ox hN TT HTT
      have r15 : x 4 = (.pointer (some ⟨b, 0, none⟩)) := hN.1 rfl
      clear hN
      unfold StepTo
      simp only [putAll, Act.put, List.setIfInBounds_toArray, List.set_cons_succ, List.set_cons_zero, r15]
      clear r15
      go_wp2_with fail
      exact ⟨rfl, _, rfl, HTT.out _ _ (rfl) (Only.refl _ _)⟩
    · intro x wx ox hN TT HTT
      have r16 : x 5 = (.pointer (some ⟨b, 0, none⟩)) := hN.1 rfl
      clear hN
      unfold StepTo
      simp only [putAll, Act.put, List.setIfInBounds_toArray, List.set_cons_succ, List.set_cons_zero, r16]
      clear r16
      go_wp2_with fail
      exact ⟨rfl, _, rfl, HTT.out _ _ (rfl) (Only.refl _ _)⟩
    · intro x wx ox hN TT HTT
      have r17 : x 6 = (.pointer (some ⟨b, 1, none⟩)) := hN.1 rfl
      clear hN
      unfold StepTo
      simp only [putAll, Act.put, List.setIfInBounds_toArray, List.set_cons_succ, List.set_cons_zero, r17]
      clear r17
      obtain ⟨x0, x1, x2, x3, x4, x5⟩ := CF.out wx (((Only.refl _ w2).drew).trans ox)
      go_wp2_with fail
      exact ⟨rfl, _, rfl, HTT.out _ _ (rfl) (Only.refl _ _)⟩
    · intro x wx ox hN TT HTT
      have r14 : x 3 = (.slice (some ⟨g, off, none⟩) N c) := hN.1 rfl
      have r18 : x 7 = (.int .i64 (i : Int)) := hN.2.1 rfl
      clear hN
      unfold StepTo
      simp only [putAll, Act.put, List.setIfInBounds_toArray, List.set_cons_succ, List.set_cons_zero, r14, r18]
      clear r14 r18
      go_wp2_with fail
      exact ⟨rfl, _, rfl, HTT.out _ _ (rfl) (Only.refl _ _)⟩
    · intro x wx ox hN TT HTT
      have r19 : x 8 = (.pointer (some ⟨g, off + i * 4, none⟩)) := hN.1 rfl
      clear hN
      unfold StepTo
      simp only [putAll, Act.put, List.setIfInBounds_toArray, List.set_cons_succ, List.set_cons_zero, r19]
      clear r19
      obtain ⟨x0, x1, x2, x3, x4, x5⟩ := CF.out wx (((Only.refl _ w2).drew).trans ox)
      go_wp2_with fail
      exact ⟨rfl, _, rfl, HTT.out _ _ (rfl) (Only.refl _ _)⟩
    · intro x wx ox hN TT HTT
      clear hN
      unfold StepTo
      simp only [putAll, Act.put, List.setIfInBounds_toArray, List.set_cons_succ, List.set_cons_zero]
      go_wp2_with fail
      exact ⟨rfl, _, rfl, HTT.out _ _ (⟨wx.heap.size, rfl, (by have := ox.size; simp at this; omega), heap_new wx _⟩) ((Only.refl _ _).alloc _)⟩
    intro xz wxz oxz hN
    have r11 : xz 0 = (.pointer (some ⟨b, 0, none⟩)) := hN.1
    have r12 : xz 1 = (.pointer (some ⟨b, 0, none⟩)) := hN.2.1
    have r13 : xz 2 = (.pointer (some ⟨b, 0, none⟩)) := hN.2.2.1
    have r14 : xz 3 = (.slice (some ⟨g, off, none⟩) N c) := hN.2.2.2.1
    have r15 : xz 4 = (.pointer (some ⟨b, 0, none⟩)) := hN.2.2.2.2.1
    have r16 : xz 5 = (.pointer (some ⟨b, 0, none⟩)) := hN.2.2.2.2.2.1
    have r17 : xz 6 = (.pointer (some ⟨b, 1, none⟩)) := hN.2.2.2.2.2.2.1
    have r18 : xz 7 = (.int .i64 (i : Int)) := hN.2.2.2.2.2.2.2.1
    have r19 : xz 8 = (.pointer (some ⟨g, off + i * 4, none⟩)) := hN.2.2.2.2.2.2.2.2.1
    have r20 : xz 9 = (.agg #[.int .u8 (t.kind : Int), .string ⟨t.text.toArray⟩, .int .i64 t.n, .int .i64 (t.at_ : Int)]) := hN.2.2.2.2.2.2.2.2.2.1
    have r5 : (fun (v : Value) (wv : World) => ∃ X, v = .pointer (some ⟨X, 0, none⟩) ∧ B < X ∧ wv.heap[X]? = some (.cells [.int .u8 0, .string ⟨#[]⟩, .int .i64 0, .int .i64 0].toArray 50 (0, 0))) (xz 10) wxz := hN.2.2.2.2.2.2.2.2.2.2.1
    clear hN
    simp only [putAll, Act.put, List.setIfInBounds_toArray, List.set_cons_succ, List.set_cons_zero, r11, r12, r13, r14, r15, r16, r17, r18, r19, r20]
    clear r11 r12 r13 r14 r15 r16 r17 r18 r19 r20
    obtain ⟨X, hx5, hBX, hXc⟩ := r5
    have o3 := ((Only.refl (fun _ => False) w2).drew).trans oxz
    have HXC := Lib.hid hXc; have O3 := Lib.hid o3
    clear hXc o3 oxz
    rw [hx5]
    clear hx5
    go_upto_region 4 with ((refine wpList_store_box (o := ⟨none, _, _, _, _, _⟩) rfl 50 (.tmp 5) (.tmp 20) (by rfl) X [.int .u8 0, .string ⟨#[]⟩, .int .i64 0, .int .i64 0] [.int .u8 (t.kind : Int), .string ⟨t.text.toArray⟩, .int .i64 t.n, .int .i64 (t.at_ : Int)] (by rfl) (by rfl) HXC.out (by rfl) (by kernel_rfl) (by intro u hu; simp at hu; rcases hu with rfl | rfl | rfl | rfl <;> rfl) ?_; intro w3 k1 k2))
    obtain ⟨z0, z1, z2, z3⟩ := box4 k1
    have h3 := (H2.out.still O3.out).only k2 (fun k hk e => by omega)
    have hr3 := (k2.block B (by have := O3.out.size; omega) (by omega)).trans ((O3.out.block B hsz (fun h => h)).trans HR2.out)
    have ho3 := (O2.out.trans' O3.out (fun k hk e => e.elim)).trans' k2 (fun k hk e => by omega)
    obtain ⟨g2, off2, cc, N2, t2, r2, he2, i2, c0, c1, c2, fz, hi2, hc2, hN2, -⟩ := h3.next
    clear he2
    have H3 := Lib.hid h3; have HR3 := Lib.hid hr3; have HO3 := Lib.hid ho3; have HX3 := Lib.hid k1
    clear h3 hr3 ho3 k1 k2 O3 O2 H2 HR2 CF HXC
    by_cases q2 : t.kind = 2
    · have t1 : ((t.kind : Int) == 2) = true := by simp; omega
      have he : valueB fixed (valueP fixed d) (t :: r') = .ok (.mk 1 t.n [] [] []) r' := by rw [valueB_cons, if_pos q2]
      have HE := Lib.hid he; clear he
      have h4 := H3.out.step (by omega) c1
      have hr4 := heap_set_ne (a := ⟨b, 1, none⟩) HR3.out (by show B ≠ b; omega) (.int .i64 ((i2 : Int) + 1))
      have ho4 := HO3.out.setCell (p := ⟨b, 1, none⟩) (.inl rfl) (.int .i64 ((i2 : Int) + 1))
      have hx4 := heap_set_ne (a := ⟨b, 1, none⟩) HX3.out (by show X ≠ b; omega) (.int .i64 ((i2 : Int) + 1))
      have HRd := Lib.hid h4; have HRB := Lib.hid hr4; have HOq := Lib.hid ho4; have HX4 := Lib.hid hx4
      clear h4 hr4 ho4 hx4
      go_upto_region 6 with (fail)
      clear z0 z1 z2 z3 c0 c1 c2 fz
      obtain ⟨w4, hw4⟩ : ∃ w4, w3.setCell ⟨b, 1, none⟩ (.int .i64 ((i2 : Int) + 1)) = w4 := ⟨_, rfl⟩
      rw [hw4] at HRd HRB HOq HX4
      rw [hw4]
      clear hw4
      obtain ⟨z0, z1, z2, z3⟩ := box4 HX4.out
      go_wp2_with ((refine wpList_store_box (o := ⟨none, _, _, _, _, _⟩) rfl 37 (.tmp 4) (.tmp 34) (by rfl) B [.int .u8 0, .int .i64 0, .string ⟨#[]⟩, .slice none 0 0, .slice none 0 0] [.int .u8 1, .int .i64 t.n, .string ⟨#[]⟩, .slice none 0 0, .slice none 0 0] (by rfl) (by rfl) HRB.out (by rfl) (by kernel_rfl) (by intro u hu; simp at hu; rcases hu with rfl | rfl | rfl | rfl | rfl <;> rfl) ?_; intro w9 k1 k2))
      refine door_ok (dp := dp + 1) (HRd.out.only k2 (fun k hk e => by omega)) (by omega) (by omega) (fun w' h6 o6 => ?_)
      have hB9 := (o6.block B (Array.getElem?_eq_some_iff.1 k1).1 (by omega)).trans k1
      obtain ⟨y0, y1, y2, y3, y4, -⟩ := box5 hB9
      exact ⟨.agg #[.int .u8 1, .int .i64 t.n, .string ⟨#[]⟩, .slice none 0 0, .slice none 0 0], by simp [results, Tryz.results75, go_sem, y0, y1, y2, y3, y4], FO.out _ r' w' _ HE.out ⟨_, rfl, leafC 1 t.n []⟩ (by rw [show dp = dp + 1 - 1 from by omega]; exact h6) ((HOq.out.trans' k2 (fun q hq e => by omega)).trans o6)⟩
    have t1 : ((t.kind : Int) == 2) = false := by simp; omega
    by_cases q3 : t.kind = 3
    · have t2 : ((t.kind : Int) == 3) = true := by simp; omega
      have he : valueB fixed (valueP fixed d) (t :: r') = .ok (.mk 2 0 t.text [] []) r' := by rw [valueB_cons, if_neg q2, if_pos q3]
      have HE := Lib.hid he; clear he
      have h4 := H3.out.step (by omega) c1
      have hr4 := heap_set_ne (a := ⟨b, 1, none⟩) HR3.out (by show B ≠ b; omega) (.int .i64 ((i2 : Int) + 1))
      have ho4 := HO3.out.setCell (p := ⟨b, 1, none⟩) (.inl rfl) (.int .i64 ((i2 : Int) + 1))
      have hx4 := heap_set_ne (a := ⟨b, 1, none⟩) HX3.out (by show X ≠ b; omega) (.int .i64 ((i2 : Int) + 1))
      have HRd := Lib.hid h4; have HRB := Lib.hid hr4; have HOq := Lib.hid ho4; have HX4 := Lib.hid hx4
      clear h4 hr4 ho4 hx4
      go_upto_region 9 with (fail)
      clear z0 z1 z2 z3 c0 c1 c2 fz
      obtain ⟨w4, hw4⟩ : ∃ w4, w3.setCell ⟨b, 1, none⟩ (.int .i64 ((i2 : Int) + 1)) = w4 := ⟨_, rfl⟩
      rw [hw4] at HRd HRB HOq HX4
      rw [hw4]
      clear hw4
      obtain ⟨z0, z1, z2, z3⟩ := box4 HX4.out
      go_wp2_with ((refine wpList_store_box (o := ⟨none, _, _, _, _, _⟩) rfl 37 (.tmp 4) (.tmp 48) (by rfl) B [.int .u8 0, .int .i64 0, .string ⟨#[]⟩, .slice none 0 0, .slice none 0 0] [.int .u8 2, .int .i64 0, .string ⟨t.text.toArray⟩, .slice none 0 0, .slice none 0 0] (by rfl) (by rfl) HRB.out (by rfl) (by kernel_rfl) (by intro u hu; simp at hu; rcases hu with rfl | rfl | rfl | rfl | rfl <;> rfl) ?_; intro w9 k1 k2))
      refine door_ok (dp := dp + 1) (HRd.out.only k2 (fun k hk e => by omega)) (by omega) (by omega) (fun w' h6 o6 => ?_)
      have hB9 := (o6.block B (Array.getElem?_eq_some_iff.1 k1).1 (by omega)).trans k1
      obtain ⟨y0, y1, y2, y3, y4, -⟩ := box5 hB9
      exact ⟨.agg #[.int .u8 2, .int .i64 0, .string ⟨t.text.toArray⟩, .slice none 0 0, .slice none 0 0], by simp [results, Tryz.results75, go_sem, y0, y1, y2, y3, y4], FO.out _ r' w' _ HE.out ⟨_, rfl, leafC 2 0 t.text⟩ (by rw [show dp = dp + 1 - 1 from by omega]; exact h6) ((HOq.out.trans' k2 (fun q hq e => by omega)).trans o6)⟩
    have t2 : ((t.kind : Int) == 3) = false := by simp; omega
    clear c0 c1 c2 fz
    have T := Lib.hid (take_any b all (t :: r') (dp + 1) wTrue w3 H3.out)
    unfold tookP at T
    obtain ⟨b4, hb4⟩ : ∃ b4, isT wTrue (t :: r') = b4 := ⟨_, rfl⟩
    rw [hb4] at T
    have q4 := Lib.hid hb4; clear hb4
    go_wp2_with fail
    refine T.out.mono ?_
    rintro e w4 ⟨rfl, h4, o4⟩
    have hr4 := (o4.block B (Array.getElem?_eq_some_iff.1 HR3.out).1 (by omega)).trans HR3.out
    have hx4 := (o4.block X (Array.getElem?_eq_some_iff.1 HX3.out).1 (by omega)).trans HX3.out
    have H4 := Lib.hid h4; have HR4 := Lib.hid hr4; have HX4 := Lib.hid hx4; have HO4 := Lib.hid (HO3.out.trans o4)
    clear h4 hr4 hx4 o4 T z0 z1 z2 z3
    obtain ⟨z0, z1, z2, z3⟩ := box4 HX4.out
    cases b4
    rotate_left
    · have he : valueB fixed (valueP fixed d) (t :: r') = .ok (.mk 3 1 [] [] []) r' := by rw [valueB_cons, if_neg q2, if_neg q3, if_pos q4.out]
      have HE := Lib.hid he; clear he
      rw [if_pos rfl] at H4
      go_wp2_with ((refine wpList_store_box (o := ⟨none, _, _, _, _, _⟩) rfl 37 (.tmp 4) (.tmp 52) (by rfl) B [.int .u8 0, .int .i64 0, .string ⟨#[]⟩, .slice none 0 0, .slice none 0 0] [.int .u8 3, .int .i64 1, .string ⟨#[]⟩, .slice none 0 0, .slice none 0 0] (by rfl) (by rfl) HR4.out (by rfl) (by kernel_rfl) (by intro u hu; simp at hu; rcases hu with rfl | rfl | rfl | rfl | rfl <;> rfl) ?_; intro w9 k1 k2))
      refine door_ok (dp := dp + 1) (H4.out.only k2 (fun k hk e => by omega)) (by omega) (by omega) (fun w' h6 o6 => ?_)
      have hB9 := (o6.block B (Array.getElem?_eq_some_iff.1 k1).1 (by omega)).trans k1
      obtain ⟨y0, y1, y2, y3, y4, -⟩ := box5 hB9
      exact ⟨.agg #[.int .u8 3, .int .i64 1, .string ⟨#[]⟩, .slice none 0 0, .slice none 0 0], by simp [results, Tryz.results75, go_sem, y0, y1, y2, y3, y4], FO.out _ r' w' _ HE.out ⟨_, rfl, leafC 3 1 []⟩ (by rw [show dp = dp + 1 - 1 from by omega]; exact h6) ((HO4.out.trans' k2 (fun q hq e => by omega)).trans o6)⟩
    rw [if_neg (by decide)] at H4
    have T := Lib.hid (take_any b all (t :: r') (dp + 1) wFalse w4 H4.out)
    unfold tookP at T
    obtain ⟨b5, hb5⟩ : ∃ b5, isT wFalse (t :: r') = b5 := ⟨_, rfl⟩
    rw [hb5] at T
    have q5 := Lib.hid hb5; clear hb5
    go_wp2_with fail
    refine T.out.mono ?_
    rintro e w5 ⟨rfl, h4, o4⟩
    have hr4 := (o4.block B (Array.getElem?_eq_some_iff.1 HR4.out).1 (by omega)).trans HR4.out
    have hx4 := (o4.block X (Array.getElem?_eq_some_iff.1 HX4.out).1 (by omega)).trans HX4.out
    have H5 := Lib.hid h4; have HR5 := Lib.hid hr4; have HX5 := Lib.hid hx4; have HO5 := Lib.hid (HO4.out.trans o4)
    clear h4 hr4 hx4 o4 T z0 z1 z2 z3
    obtain ⟨z0, z1, z2, z3⟩ := box4 HX5.out
    cases b5
    rotate_left
    · have he : valueB fixed (valueP fixed d) (t :: r') = .ok (.mk 3 0 [] [] []) r' := by rw [valueB_cons, if_neg q2, if_neg q3, if_neg (by rw [q4.out]; decide), if_pos q5.out]
      have HE := Lib.hid he; clear he
      rw [if_pos rfl] at H5
      go_wp2_with ((refine wpList_store_box (o := ⟨none, _, _, _, _, _⟩) rfl 37 (.tmp 4) (.tmp 56) (by rfl) B [.int .u8 0, .int .i64 0, .string ⟨#[]⟩, .slice none 0 0, .slice none 0 0] [.int .u8 3, .int .i64 0, .string ⟨#[]⟩, .slice none 0 0, .slice none 0 0] (by rfl) (by rfl) HR5.out (by rfl) (by kernel_rfl) (by intro u hu; simp at hu; rcases hu with rfl | rfl | rfl | rfl | rfl <;> rfl) ?_; intro w9 k1 k2))
      refine door_ok (dp := dp + 1) (H5.out.only k2 (fun k hk e => by omega)) (by omega) (by omega) (fun w' h6 o6 => ?_)
      have hB9 := (o6.block B (Array.getElem?_eq_some_iff.1 k1).1 (by omega)).trans k1
      obtain ⟨y0, y1, y2, y3, y4, -⟩ := box5 hB9
      exact ⟨.agg #[.int .u8 3, .int .i64 0, .string ⟨#[]⟩, .slice none 0 0, .slice none 0 0], by simp [results, Tryz.results75, go_sem, y0, y1, y2, y3, y4], FO.out _ r' w' _ HE.out ⟨_, rfl, leafC 3 0 []⟩ (by rw [show dp = dp + 1 - 1 from by omega]; exact h6) ((HO5.out.trans' k2 (fun q hq e => by omega)).trans o6)⟩
    rw [if_neg (by decide)] at H5
    have T := Lib.hid (take_any b all (t :: r') (dp + 1) wNull w5 H5.out)
    unfold tookP at T
    obtain ⟨b6, hb6⟩ : ∃ b6, isT wNull (t :: r') = b6 := ⟨_, rfl⟩
    rw [hb6] at T
    have q6 := Lib.hid hb6; clear hb6
    go_wp2_with fail
    refine T.out.mono ?_
    rintro e w6 ⟨rfl, h4, o4⟩
    have hr4 := (o4.block B (Array.getElem?_eq_some_iff.1 HR5.out).1 (by omega)).trans HR5.out
    have hx4 := (o4.block X (Array.getElem?_eq_some_iff.1 HX5.out).1 (by omega)).trans HX5.out
    have H6 := Lib.hid h4; have HR6 := Lib.hid hr4; have HX6 := Lib.hid hx4; have HO6 := Lib.hid (HO5.out.trans o4)
    clear h4 hr4 hx4 o4 T z0 z1 z2 z3
    obtain ⟨z0, z1, z2, z3⟩ := box4 HX6.out
    cases b6
    rotate_left
    · have he : valueB fixed (valueP fixed d) (t :: r') = .ok VT.zero r' := by rw [valueB_cons, if_neg q2, if_neg q3, if_neg (by rw [q4.out]; decide), if_neg (by rw [q5.out]; decide), if_pos q6.out]
      have HE := Lib.hid he; clear he
      rw [if_pos rfl] at H6
      go_wp2_with ((refine wpList_store_box (o := ⟨none, _, _, _, _, _⟩) rfl 37 (.tmp 4) (.tmp 60) (by rfl) B [.int .u8 0, .int .i64 0, .string ⟨#[]⟩, .slice none 0 0, .slice none 0 0] [.int .u8 0, .int .i64 0, .string ⟨#[]⟩, .slice none 0 0, .slice none 0 0] (by rfl) (by rfl) HR6.out (by rfl) (by kernel_rfl) (by intro u hu; simp at hu; rcases hu with rfl | rfl | rfl | rfl | rfl <;> rfl) ?_; intro w9 k1 k2))
      refine door_ok (dp := dp + 1) (H6.out.only k2 (fun k hk e => by omega)) (by omega) (by omega) (fun w' h6 o6 => ?_)
      have hB9 := (o6.block B (Array.getElem?_eq_some_iff.1 k1).1 (by omega)).trans k1
      obtain ⟨y0, y1, y2, y3, y4, -⟩ := box5 hB9
      exact ⟨.agg #[.int .u8 0, .int .i64 0, .string ⟨#[]⟩, .slice none 0 0, .slice none 0 0], by simp [results, Tryz.results75, go_sem, y0, y1, y2, y3, y4], FO.out _ r' w' _ HE.out ⟨_, rfl, leafC 0 0 []⟩ (by rw [show dp = dp + 1 - 1 from by omega]; exact h6) ((HO6.out.trans' k2 (fun q hq e => by omega)).trans o6)⟩
    rw [if_neg (by decide)] at H6
    by_cases q7 : t.kind = 1
    · have t3 : ((t.kind : Int) == 1) = true := by simp; omega
      have he : valueB fixed (valueP fixed d) (t :: r') = .ok (.mk 4 0 t.text [] []) r' := by rw [valueB_cons, if_neg q2, if_neg q3, if_neg (by rw [q4.out]; decide), if_neg (by rw [q5.out]; decide), if_neg (by rw [q6.out]; decide), if_pos q7]
      have HE := Lib.hid he; clear he
      obtain ⟨g3, off3, cc3, N3, t3', r3, he2, i2, c0, c1, c2, fz, hi3, hc3, hN3, -⟩ := H6.out.next
      clear he2
      have h4 := H6.out.step (by omega) c1
      have hr4 := heap_set_ne (a := ⟨b, 1, none⟩) HR6.out (by show B ≠ b; omega) (.int .i64 ((i2 : Int) + 1))
      have ho4 := HO6.out.setCell (p := ⟨b, 1, none⟩) (.inl rfl) (.int .i64 ((i2 : Int) + 1))
      have hx4 := heap_set_ne (a := ⟨b, 1, none⟩) HX6.out (by show X ≠ b; omega) (.int .i64 ((i2 : Int) + 1))
      have HRd := Lib.hid h4; have HRB := Lib.hid hr4; have HOq := Lib.hid ho4; have HX4 := Lib.hid hx4
      clear h4 hr4 ho4 hx4
      go_upto_region 18 with (fail)
      clear z0 z1 z2 z3 c0 c1 c2 fz
      obtain ⟨w7, hw7⟩ : ∃ w7, w6.setCell ⟨b, 1, none⟩ (.int .i64 ((i2 : Int) + 1)) = w7 := ⟨_, rfl⟩
      rw [hw7] at HRd HRB HOq HX4
      rw [hw7]
      clear hw7
      obtain ⟨z0, z1, z2, z3⟩ := box4 HX4.out
      go_wp2_with ((refine wpList_store_box (o := ⟨none, _, _, _, _, _⟩) rfl 37 (.tmp 4) (.tmp 74) (by rfl) B [.int .u8 0, .int .i64 0, .string ⟨#[]⟩, .slice none 0 0, .slice none 0 0] [.int .u8 4, .int .i64 0, .string ⟨t.text.toArray⟩, .slice none 0 0, .slice none 0 0] (by rfl) (by rfl) HRB.out (by rfl) (by kernel_rfl) (by intro u hu; simp at hu; rcases hu with rfl | rfl | rfl | rfl | rfl <;> rfl) ?_; intro w9 k1 k2))
      refine door_ok (dp := dp + 1) (HRd.out.only k2 (fun k hk e => by omega)) (by omega) (by omega) (fun w' h6 o6 => ?_)
      have hB9 := (o6.block B (Array.getElem?_eq_some_iff.1 k1).1 (by omega)).trans k1
      obtain ⟨y0, y1, y2, y3, y4, -⟩ := box5 hB9
      exact ⟨.agg #[.int .u8 4, .int .i64 0, .string ⟨t.text.toArray⟩, .slice none 0 0, .slice none 0 0], by simp [results, Tryz.results75, go_sem, y0, y1, y2, y3, y4], FO.out _ r' w' _ HE.out ⟨_, rfl, leafC 4 0 t.text⟩ (by rw [show dp = dp + 1 - 1 from by omega]; exact h6) ((HOq.out.trans' k2 (fun q hq e => by omega)).trans o6)⟩
    have t3 : ((t.kind : Int) == 1) = false := by simp; omega
    obtain ⟨sb, hsb⟩ : ∃ sb, (!fixed && isT [36] (t :: r')) = sb := ⟨_, rfl⟩
    have q8 := Lib.hid hsb; clear hsb
    go_upto_region 19 with (fail)
    clear z0 z1 z2 z3
    go_cut [75] from 76 to 81 (fun v w' => v = .bool sb ∧ Hid (RdP w' b all (if sb = true then r' else t :: r') (dp + 1)) ∧ Hid (w'.heap[B]? = some (.cells #[.int .u8 0, .int .i64 0, .string ⟨#[]⟩, .slice none 0 0, .slice none 0 0] 37 (0, 0))) ∧ Hid (Only (fun k => k = b) w w'))
    case first =>
      cases fixed
      · have T := Lib.hid (take_any b all (t :: r') (dp + 1) [36] w6 H6.out)
        unfold tookP at T
        have q8' := q8.out
        simp only [Bool.not_false, Bool.true_and] at q8'
        rw [q8'] at T
        clear q8'
        go_wp2_with fail
        refine T.out.mono ?_
        rintro e w7 ⟨rfl, h4, o4⟩
        have hr4 := (o4.block B (Array.getElem?_eq_some_iff.1 HR6.out).1 (by omega)).trans HR6.out
        have H7 := Lib.hid h4; have HR7 := Lib.hid hr4; have HO7 := Lib.hid (HO6.out.trans o4)
        clear h4 hr4 o4 T
        go_wp2_with fail
        go_meet
        case rel => exact ⟨by simp, H7, HR7, HO7⟩
      · have hsf : sb = false := by rw [← q8.out]; rfl
        subst hsf
        go_wp2_with fail
        go_meet
        case rel => exact ⟨by simp, Lib.hid (by rw [if_neg (by decide)]; exact H6.out), HR6, HO6⟩
    case rest =>
      obtain ⟨rfl, H7, HR7, HO7⟩ := hcut
      obtain ⟨w7, rfl⟩ : ∃ x, x = wc := ⟨_, rfl⟩
      cases sb
      rotate_left
      · have he : valueB fixed (valueP fixed d) (t :: r') = (nameP r').bind fun s r1 => .ok (.mk 7 0 s [] []) r1 := by rw [valueB_cons, if_neg q2, if_neg q3, if_neg (by rw [q4.out]; decide), if_neg (by rw [q5.out]; decide), if_neg (by rw [q6.out]; decide), if_neg q7, if_pos q8.out]
        have HS := Lib.hid he; clear he
        rw [if_pos rfl] at H7
        have J := Lib.hid (name_any b all r' (dp + 1) w7 H7.out)
        cases hq : nameP r' with
        | bad a c =>
          rw [hq] at J
          have HE := Lib.hid (HS.out.trans (bind_bad hq)); clear hq
          go_wp2_with fail
          refine J.out.mono ?_
          rintro e w8 ⟨rfl, ⟨r'', dp', h5, ha, l1, l2⟩, o5⟩
          have HO8 := Lib.hid (HO7.out.trans o5)
          exact door_bad h5 (by omega) (by omega) (fun w' h6 o6 => FB.out a c w' r'' (dp' - 1) HE.out h6 ha (by omega) (by omega) (HO8.out.trans o6))
        | ok s r1 =>
          rw [hq] at J
          have HE := Lib.hid (HS.out.trans (bind_ok hq)); clear hq
          go_wp2_with fail
          refine J.out.mono ?_
          rintro e w8 ⟨v, rfl, hv, h5, o5⟩
          have hv : v = .string ⟨s.toArray⟩ := hv
          subst hv
          have hr8 := (o5.block B (Array.getElem?_eq_some_iff.1 HR7.out).1 (by omega)).trans HR7.out
          have H8 := Lib.hid h5; have HR8 := Lib.hid hr8; have HO8 := Lib.hid (HO7.out.trans o5)
          clear h5 hr8 o5 J
          go_wp2_with ((refine wpList_store_box (o := ⟨none, _, _, _, _, _⟩) rfl 37 (.tmp 4) (.tmp 84) (by rfl) B [.int .u8 0, .int .i64 0, .string ⟨#[]⟩, .slice none 0 0, .slice none 0 0] [.int .u8 7, .int .i64 0, .string ⟨s.toArray⟩, .slice none 0 0, .slice none 0 0] (by rfl) (by rfl) HR8.out (by rfl) (by kernel_rfl) (by intro u hu; simp at hu; rcases hu with rfl | rfl | rfl | rfl | rfl <;> rfl) ?_; intro w9 k1 k2))
          refine door_ok (dp := dp + 1) (H8.out.only k2 (fun k hk e => by omega)) (by omega) (by omega) (fun w' h6 o6 => ?_)
          have hB9 := (o6.block B (Array.getElem?_eq_some_iff.1 k1).1 (by omega)).trans k1
          obtain ⟨y0, y1, y2, y3, y4, -⟩ := box5 hB9
          exact ⟨.agg #[.int .u8 7, .int .i64 0, .string ⟨s.toArray⟩, .slice none 0 0, .slice none 0 0], by simp [results, Tryz.results75, go_sem, y0, y1, y2, y3, y4], FO.out _ r1 w' _ HE.out ⟨_, rfl, leafC 7 0 s⟩ (by rw [show dp = dp + 1 - 1 from by omega]; exact h6) ((HO8.out.trans' k2 (fun q hq e => by omega)).trans o6)⟩
      rw [if_neg (by decide)] at H7
      have T := Lib.hid (take_any b all (t :: r') (dp + 1) [91] w7 H7.out)
      unfold tookP at T
      obtain ⟨b9, hb9⟩ : ∃ b9, isT [91] (t :: r') = b9 := ⟨_, rfl⟩
      rw [hb9] at T
      have q9 := Lib.hid hb9; clear hb9
      go_wp2_with fail
      refine T.out.mono ?_
      rintro e w8 ⟨rfl, h4, o4⟩
      have hr4 := (o4.block B (Array.getElem?_eq_some_iff.1 HR7.out).1 (by omega)).trans HR7.out
      have H8 := Lib.hid h4; have HR8 := Lib.hid hr4; have HO8 := Lib.hid (HO7.out.trans o4)
      clear h4 hr4 o4 T
      cases b9
      rotate_left
      · have he : valueB fixed (valueP fixed d) (t :: r') = (anyP (valueP fixed d) [93] (r'.length + 1) [] r').bind fun vs r1 => .ok (.mk 5 0 [] [] vs) r1 := by rw [valueB_cons, if_neg q2, if_neg q3, if_neg (by rw [q4.out]; decide), if_neg (by rw [q5.out]; decide), if_neg (by rw [q6.out]; decide), if_neg q7, if_neg (by rw [q8.out]; decide), if_pos q9.out]
        have HS := Lib.hid he; clear he
        rw [if_pos rfl] at H8
        have hY8 : B < w8.heap.size := (Array.getElem?_eq_some_iff.1 HR8.out).1
        obtain ⟨Y, hY⟩ : ∃ Y, w8.heap.size = Y := ⟨_, rfl⟩
        rw [hY] at hY8
        obtain ⟨w9, hw9⟩ : ∃ w9, w9 = w8.alloc (.cells #[.int .u8 5, .int .i64 0, .string ⟨#[]⟩, .slice none 0 0, .slice none 0 0] 37) := ⟨_, rfl⟩
        have hy9 : w9.heap[Y]? = some (.cells #[.int .u8 5, .int .i64 0, .string ⟨#[]⟩, .slice none 0 0, .slice none 0 0] 37 (0, 0)) := by rw [hw9, ← hY]; exact heap_new _ _
        have hr9 : w9.heap[B]? = some (.cells #[.int .u8 0, .int .i64 0, .string ⟨#[]⟩, .slice none 0 0, .slice none 0 0] 37 (0, 0)) := by rw [hw9]; exact heap_old HR8.out _
        have hl9 : LInv w Y B b all (dp + 1) (valueP fixed d) r' w9 := ⟨[], r', .slice none 0 0, hy9, OwnRow.nil _ _ _ _, by rw [hw9]; exact H8.out.still ((Only.refl (fun _ => False) w8).alloc _), hr9, by rw [hw9]; exact HO8.out.alloc _, by have h1 : posOf w8 b + r'.length = all.length := H8.out.pos; have h2 := H8.out.few; simp only [List.length_nil]; omega, r'.length + 1, by omega, rfl⟩
        have HL9 := Lib.hid hl9; have HW9 := Lib.hid hw9; have HY := Lib.hid hY
        clear hl9 hw9 hY hy9 hr9
        go_upto_region 23 with (fail)
        rw [HY.out, ← HW9.out]
        clear HW9 HY
        go_loopw [] (fun wr => Hid (LInv w Y B b all (dp + 1) (valueP fixed d) r' wr)) (fun wr => all.length - posOf wr b)
        case atStart => exact HL9
      
        case round =>
          obtain ⟨acc, rest, vL, hy, hown, hrd, hrb, hon, hfew, n, hn, heq⟩ := hrel.out
          obtain ⟨n, rfl⟩ : ∃ m, n = m + 1 := ⟨n - 1, by omega⟩
          rw [anyP] at heq
          have hpos := hrd.pos
          have hbY : b < Y := by omega
          have T := Lib.hid (take_any b all rest (dp + 1) [93] wr hrd)
          unfold tookP at T
          obtain ⟨bb, hbb⟩ : ∃ bb, isT [93] rest = bb := ⟨_, rfl⟩
          rw [hbb] at T heq
          have HY9 := Lib.hid hy; have HW9 := Lib.hid hown; have HB9 := Lib.hid hrb; have HO9 := Lib.hid hon; have HN := Lib.hid hn; have HEQ := Lib.hid heq; have HPOS := Lib.hid hpos; have HFEW := Lib.hid hfew
          clear hy hown hrb hon hn heq hpos hrel hrd hbb HL9 hfew
          go_wp2_with fail
          refine T.out.mono ?_
          rintro e w20 ⟨rfl, h4, o4⟩
          have hy4 := (o4.block Y (Array.getElem?_eq_some_iff.1 HY9.out).1 (by omega)).trans HY9.out
          have hb4 := (o4.block B (Array.getElem?_eq_some_iff.1 HB9.out).1 (by omega)).trans HB9.out
          have hw4 := HW9.out.only o4 (fun k h1 h2 e => by omega)
          obtain ⟨aL, cL, eL, fL1, fL2, fL3⟩ := hw4.form
          rw [List.length_map] at eL fL1
          subst eL
          have fL2n : cL ≤ 9223372036854775807 := by unfold maxLen at fL2; omega
          have hY20 : Y < w20.heap.size := (Array.getElem?_eq_some_iff.1 hy4).1
          have H20 := Lib.hid h4; have HY20 := Lib.hid hy4; have HB20 := Lib.hid hb4; have HW20 := Lib.hid hw4; have HO20 := Lib.hid (HO9.out.trans o4); have HFL := Lib.hid fL3
          clear h4 hy4 hb4 hw4 o4 T HY9 HB9 HW9 HO9 fL2 fL3
          obtain ⟨c0, c1, c2, c3, c4, fz⟩ := box5 HY20.out
          cases bb
          rotate_left
          · have he := HS.out.trans (bind_ok (HEQ.out.symm.trans (if_pos rfl)))
            have HE := Lib.hid he; clear he
            rw [if_pos rfl] at H20
            go_wp2_with ((refine wpList_store_box (o := ⟨none, _, _, _, _, _⟩) rfl 37 (.tmp 4) (.tmp 100) (by rfl) B [.int .u8 0, .int .i64 0, .string ⟨#[]⟩, .slice none 0 0, .slice none 0 0] [.int .u8 5, .int .i64 0, .string ⟨#[]⟩, .slice none 0 0, .slice aL acc.length cL] (by rfl) (by rfl) HB20.out (by rfl) (by kernel_rfl) (by intro u hu; simp at hu; rcases hu with rfl | rfl | rfl | rfl | rfl <;> rfl) ?_; intro w9 k1 k2))
            refine door_ok (dp := dp + 1) (H20.out.only k2 (fun k hk e => by omega)) (by omega) (by omega) (fun w' h6 o6 => ?_)
            have hB9 := (o6.block B (Array.getElem?_eq_some_iff.1 k1).1 (by omega)).trans k1
            obtain ⟨y0, y1, y2, y3, y4, -⟩ := box5 hB9
            exact ⟨.agg #[.int .u8 5, .int .i64 0, .string ⟨#[]⟩, .slice none 0 0, .slice aL acc.length cL], by simp [results, Tryz.results75, go_sem, y0, y1, y2, y3, y4], FO.out _ rest.tail w' _ HE.out ⟨_, rfl, listC (CellAt.weaken (fun q _ h => by have h : Y + 1 ≤ q := h; show B ≤ q; omega) _ _ (OwnRow.cell ((HW20.out.only k2 (fun k h1 h2 e => by omega)).only o6 (fun k h1 h2 e => by omega))))⟩ (by rw [show dp = dp + 1 - 1 from by omega]; exact h6) ((HO20.out.trans' k2 (fun q hq e => by omega)).trans o6)⟩
          rw [if_neg (by decide)] at H20
          have heq2 := HEQ.out
          rw [if_neg (by decide)] at heq2
          have HEQ2 := Lib.hid heq2; clear heq2 HEQ
          cases hq : valueP fixed d rest with
          | bad a c =>
            have J : ∀ wx, Only (fun _ => False) w20 wx → Calls Tryz.prog 75 #[.pointer (some ⟨b, 0, none⟩), .bool fixed] wx (Ans wx b all (dp + 1) (aggP wx.heap.size valC) (.bad a c)) := fun wx o => by
              have := IH.out b all rest wx (H20.out.still o)
              rw [hq] at this; exact this
            have hf : anyP (valueP fixed d) [93] (r'.length + 1) [] r' = .bad a c := HEQ2.out.symm.trans (bind_bad hq)
            have J := Lib.hid J
            have HE := Lib.hid (HS.out.trans (bind_bad hf)); clear hq hf
            go_upto_region 24 with (fail)
            refine Code.wp_mono (Q := fun e av wv => e = Exit.panic (faultV c) ∧ av.defers = [{ target := Target.fn (Fn.func 85) #[], args := #[.pointer (some ⟨b, 0, none⟩)] }] ∧ Only (fun k => k = b) w20 wv ∧ ∃ (r'' : List Tok) (dp' : Int), RdP wv b all r'' dp' ∧ atT r'' = a ∧ dp + 1 ≤ dp' ∧ dp' ≤ dp + 1 + 1) ?_ ?_
            · rintro e ⟨tm, df⟩ w8 ⟨rfl, hdf, o5, r'', dp', h5, ha, l1, l2⟩
              have hdf : df = _ := hdf
              subst hdf
              exact door_bad h5 (by omega) (by omega) (fun w' h6 o6 => FB.out a c w' r'' (dp' - 1) HE.out h6 ha (by omega) (by omega) ((HO20.out.trans o5).trans o6))
            · go_region_dies
              all_goals (refine (J.out _ ((Only.refl _ w20).drew)).mono ?_; rintro e w8 ⟨rfl, ⟨r'', dp', h5, ha, l1, l2⟩, o5⟩; exact ⟨rfl, ((Only.refl _ w20).drew).trans o5, r'', dp', h5, ha, l1, l2⟩)
          | ok y rr =>
            have J : ∀ wx, Only (fun _ => False) w20 wx → Calls Tryz.prog 75 #[.pointer (some ⟨b, 0, none⟩), .bool fixed] wx (Ans wx b all (dp + 1) (aggP wx.heap.size valC) (.ok y rr)) := fun wx o => by
              have := IH.out b all rest wx (H20.out.still o)
              rw [hq] at this; exact this
            have hnew : anyP (valueP fixed d) [93] n (acc ++ [y]) rr = anyP (valueP fixed d) [93] (r'.length + 1) [] r' := (bind_ok hq).symm.trans HEQ2.out
            have hlt := valueP_takes fixed d rest y rr hq
            have J := Lib.hid J; have HNEW := Lib.hid hnew; have HLT := Lib.hid hlt
            clear hq hnew hlt HEQ2
            go_upto_region 24 with (fail)
            clear c0 c1 c2 c3 c4
            refine wp_region_stepsM 8 (by kernel_rfl) rfl (by kernel_rfl) [some 92, some 93, some 94, some 95, some 96, some 97, some 98, some 99] rfl rfl 4 6 (fun q => q = b) (fun q => (Value.slice aL acc.length cL).ownBlock = some q) [5, 6, 7, 8] (by kernel_rfl) [2, 3] (by kernel_rfl) (by decide) (by decide) (.inr ⟨by decide, by decide⟩) [(fun v _ => v = (.pointer (some ⟨Y, 4, none⟩))), (fun v _ => v = (.slice aL acc.length cL)), (fun v _ => v = (.pointer (some ⟨b, 0, none⟩))), (fun v _ => v = (.bool fixed)), (fun v w1 => ∃ (k' : Nat) (n' : Int) (s' : List UInt8) (ak' : Option Addr) (lk' ck' : Nat) (av' : Option Addr) (lv' cv' : Nat), v = .agg #[.int .u8 k', .int .i64 n', .string ⟨s'.toArray⟩, .slice ak' lk' ck', .slice av' lv' cv'] ∧ CellsAt w1 (fun q => w20.heap.size ≤ q) (valC y) [.int .u8 k', .int .i64 n', .string ⟨s'.toArray⟩, .slice ak' lk' ck', .slice av' lv' cv'] ∧ RdP w1 b all rr (dp + 1)), (fun v w1 => ∃ (g : Nat) (cs : List Value), v = .slice (some ⟨g, 0, none⟩) 1 1 ∧ w20.heap.size ≤ g ∧ g < w1.heap.size ∧ cs.length = 5 ∧ w1.rangeAt g 0 cs ∧ CellsAt w1 (fun q => w20.heap.size ≤ q) (valC y) cs ∧ RdP w1 b all rr (dp + 1)), (fun v w1 => OwnRow w1 (Y + 1) 37 5 v (acc.map valC ++ [valC y]) ∧ (∀ q, v.ownBlock = some q → (Value.slice aL acc.length cL).ownBlock = some q ∨ w20.heap.size ≤ q) ∧ RdP w1 b all rr (dp + 1)), (fun v _ => v = (.pointer (some ⟨Y, 4, none⟩)))] rfl ⟨?_, ?_, ?_, ?_, ?_, ?_, ?_, ?_, trivial⟩ _ rfl ⟨?_, ?_, ?_, ?_, ?_, ?_, ?_, ?_, trivial⟩ ?_
            · exact Stable.is _ _
            · exact Stable.is _ _
            · exact Stable.is _ _
            · exact Stable.is _ _
            · intro v w1 w2 h ho
              have ho : Only (fun q => (Value.slice aL acc.length cL).ownBlock = some q) w1 w2 := ho
              exact (by obtain ⟨k', n', s', ak', lk', ck', av', lv', cv', e1, e2, e3⟩ := h; exact ⟨k', n', s', ak', lk', ck', av', lv', cv', e1, CellsAt.only ho (fun q hq hk => by have := (HFL.out q hk).2; have hq : w20.heap.size ≤ q := hq; omega) _ _ e2, e3.only ho (fun k hk h => by have := (HFL.out k h).1; omega)⟩)
            · intro v w1 w2 h ho
              have ho : Only (fun q => (Value.slice aL acc.length cL).ownBlock = some q) w1 w2 := ho
              exact (by obtain ⟨g, cs, e1, e2, e3, e4, e5, e6, e7⟩ := h; have hng : ¬ (Value.slice aL acc.length cL).ownBlock = some g := fun hk => (by have := (HFL.out g hk).2; omega); exact ⟨g, cs, e1, e2, Nat.lt_of_lt_of_le e3 ho.size, e4, range_keep e5 e3 ho hng, CellsAt.only ho (fun q hq hk => by have := (HFL.out q hk).2; have hq : w20.heap.size ≤ q := hq; omega) _ _ e6, e7.only ho (fun k hk h => by have := (HFL.out k h).1; omega)⟩)
            · intro v w1 w2 h ho
              have ho : Only (fun _ => False) w1 w2 := ho
              exact (by obtain ⟨e1, e2, e3⟩ := h; exact ⟨e1.only ho (fun _ _ _ h => h), e2, e3.still ho⟩)
            · exact Stable.is _ _
            · intro x wx ox hN TT HTT
              have ox : Only (fun q => (fun q => q = b) q ∨ (fun q => (Value.slice aL acc.length cL).ownBlock = some q) q) _ wx := ox
              clear hN
              unfold StepTo
              simp only [putAll, Act.put, List.setIfInBounds_toArray, List.set_cons_succ, List.set_cons_zero]
              go_wp2_with fail
              exact ⟨rfl, _, rfl, HTT.out _ _ (rfl) (Only.refl _ _)⟩
            · intro x wx ox hN TT HTT
              have ox : Only (fun q => (fun q => q = b) q ∨ (fun q => (Value.slice aL acc.length cL).ownBlock = some q) q) _ wx := ox
              have r92 : x 0 = (.pointer (some ⟨Y, 4, none⟩)) := hN.1 rfl
              clear hN
              unfold StepTo
              simp only [putAll, Act.put, List.setIfInBounds_toArray, List.set_cons_succ, List.set_cons_zero, r92]
              clear r92
              have hbx := (ox.block _ hY20 (fun h => by rcases h with h | h; omega; (have := (HFL.out _ h).1; omega))).trans HY20.out
              obtain ⟨c0, c1, c2, c3, c4, -⟩ := box5 hbx
              clear hbx
              go_wp2_with fail
              exact ⟨rfl, _, rfl, HTT.out _ _ (rfl) (Only.refl _ _)⟩
            · intro x wx ox hN TT HTT
              have ox : Only (fun _ => False) _ wx := ox
              clear hN
              unfold StepTo
              simp only [putAll, Act.put, List.setIfInBounds_toArray, List.set_cons_succ, List.set_cons_zero]
              go_wp2_with fail
              exact ⟨rfl, _, rfl, HTT.out _ _ (rfl) (Only.refl _ _)⟩
            · intro x wx ox hN TT HTT
              have ox : Only (fun _ => False) _ wx := ox
              clear hN
              unfold StepTo
              simp only [putAll, Act.put, List.setIfInBounds_toArray, List.set_cons_succ, List.set_cons_zero]
              go_wp2_with fail
              exact ⟨rfl, _, rfl, HTT.out _ _ (rfl) (Only.refl _ _)⟩
            · intro x wx ox hN TT HTT
              have ox : Only (fun _ => False) _ wx := ox
              have r94 : x 2 = (.pointer (some ⟨b, 0, none⟩)) := hN.1 rfl
              have r95 : x 3 = (.bool fixed) := hN.2.1 rfl
              clear hN
              unfold StepTo
              simp only [putAll, Act.put, List.setIfInBounds_toArray, List.set_cons_succ, List.set_cons_zero, r94, r95]
              clear r94 r95
              have hsl : w20.heap.size ≤ wx.heap.size := ox.size
              have ht := J.out wx (((Only.refl _ w20).drew).trans ox)
              have HT := Lib.hid ht; have HSL := Lib.hid hsl; clear ht hsl
              go_wp2_with fail
              refine HT.out.mono ?_
              rintro e w6 ⟨v6, rfl, ⟨cs, rfl, hv6⟩, h6, o6⟩
              obtain ⟨k', n', s', ak', lk', ck', av', lv', cv', rfl⟩ := valC_form2 hv6
              have H6 := Lib.hid h6; have O6 := Lib.hid o6; have HV6 := Lib.hid hv6; clear h6 o6 hv6
              go_wp2_with fail
              exact ⟨rfl, _, rfl, HTT.out _ _ (⟨k', n', s', ak', lk', ck', av', lv', cv', rfl, CellsAt.weaken (fun q _ h => Nat.le_trans HSL.out h) _ _ HV6.out, H6.out⟩) (O6.out)⟩
            · intro x wx ox hN TT HTT
              have ox : Only (fun q => (fun q => q = b) q ∨ (fun q => (Value.slice aL acc.length cL).ownBlock = some q) q) _ wx := ox
              have r96 : (fun (v : Value) (w1 : World) => ∃ (k' : Nat) (n' : Int) (s' : List UInt8) (ak' : Option Addr) (lk' ck' : Nat) (av' : Option Addr) (lv' cv' : Nat), v = .agg #[.int .u8 k', .int .i64 n', .string ⟨s'.toArray⟩, .slice ak' lk' ck', .slice av' lv' cv'] ∧ CellsAt w1 (fun q => w20.heap.size ≤ q) (valC y) [.int .u8 k', .int .i64 n', .string ⟨s'.toArray⟩, .slice ak' lk' ck', .slice av' lv' cv'] ∧ RdP w1 b all rr (dp + 1)) (x 4) wx := hN.1 rfl
              clear hN
              unfold StepTo
              simp only [putAll, Act.put, List.setIfInBounds_toArray, List.set_cons_succ, List.set_cons_zero]
              obtain ⟨k', n', s', ak', lk', ck', av', lv', cv', e1, e2, e3⟩ := r96
              simp only [e1]
              have hn := heap_new wx (.cells #[.int .u8 k', .int .i64 n', .string ⟨s'.toArray⟩, .slice ak' lk' ck', .slice av' lv' cv'] 37)
              have on := (Only.refl (fun _ => False) wx).alloc (.cells #[.int .u8 k', .int .i64 n', .string ⟨s'.toArray⟩, .slice ak' lk' ck', .slice av' lv' cv'] 37)
              have hgl : w20.heap.size ≤ wx.heap.size := ox.size
              have H3 := Lib.hid e3; have HNB := Lib.hid hn; have ON := Lib.hid on; have HGL2 := Lib.hid hgl; have HV2 := Lib.hid e2; clear e1 e2 e3 hn on hgl
              go_wp2_with fail
              exact ⟨rfl, _, rfl, HTT.out _ _ (⟨wx.heap.size, _, rfl, HGL2.out, by simp, rfl, range_of_block HNB.out, CellsAt.only ON.out (fun _ _ h => h) _ _ HV2.out, H3.out.still ON.out⟩) (ON.out)⟩
            · intro x wx ox hN TT HTT
              have ox : Only (fun q => q = b) _ wx := ox
              have r93 : x 1 = (.slice aL acc.length cL) := hN.1 rfl
              have r97 : (fun (v : Value) (w1 : World) => ∃ (g : Nat) (cs : List Value), v = .slice (some ⟨g, 0, none⟩) 1 1 ∧ w20.heap.size ≤ g ∧ g < w1.heap.size ∧ cs.length = 5 ∧ w1.rangeAt g 0 cs ∧ CellsAt w1 (fun q => w20.heap.size ≤ q) (valC y) cs ∧ RdP w1 b all rr (dp + 1)) (x 5) wx := hN.2.1 rfl
              have r96 : (fun (v : Value) (w1 : World) => ∃ (k' : Nat) (n' : Int) (s' : List UInt8) (ak' : Option Addr) (lk' ck' : Nat) (av' : Option Addr) (lv' cv' : Nat), v = .agg #[.int .u8 k', .int .i64 n', .string ⟨s'.toArray⟩, .slice ak' lk' ck', .slice av' lv' cv'] ∧ CellsAt w1 (fun q => w20.heap.size ≤ q) (valC y) [.int .u8 k', .int .i64 n', .string ⟨s'.toArray⟩, .slice ak' lk' ck', .slice av' lv' cv'] ∧ RdP w1 b all rr (dp + 1)) (x 4) wx := hN.2.2.1 rfl
              clear hN
              unfold StepTo
              simp only [putAll, Act.put, List.setIfInBounds_toArray, List.set_cons_succ, List.set_cons_zero, r93]
              clear r93
              obtain ⟨g, cs, e1, e2, e3, e4, e5, e6, e7⟩ := r97
              simp only [e1]
              obtain ⟨xs, p1, p2⟩ := HW20.out.only (((Only.refl _ w20).drew).trans ox) (fun k h1 h2 e => by omega)
              have hys : ∀ j u, cs[j]? = some u → wx.cell? ((⟨g, 0, none⟩ : Addr).add j) = some u := fun j u hu => by rw [addr_add]; exact e5 j u hu
              have hone : ∀ u ∈ cs, u.oneCell' = true := CellsAt.one e6
              have hsl : w20.heap.size ≤ wx.heap.size := ox.size
              have hkb : (acc.length + 1) ≤ 1000001 := by have h2 := HFEW.out; omega
              have HP1 := Lib.hid p1; have HP2 := Lib.hid p2; have HYS := Lib.hid hys; have HSL := Lib.hid hsl; have HKB2 := Lib.hid hkb; have H6 := Lib.hid e7; have HV6 := Lib.hid e6; have HONE := Lib.hid hone; clear p1 p2 hys hsl hkb e7 e6 e5 e1 hone
              rw [List.length_map] at HP1
              go_wp2_with ((refine wpList_append_own2 (o := ⟨some 98, _, _, _, _, _⟩) rfl (.tmp 93) (.tmp 97) 35 37 (by rfl) Tryz.underlying35 infoVal rfl (by decide) (Y + 1) (.slice aL acc.length cL) acc.length 1 1 xs cs ⟨g, 0, none⟩ (by rfl) (by rfl) HP1.out (by rw [e4]) HYS.out HONE.out (by have := HKB2.out; unfold maxLen; omega) (by have := HKB2.out; omega) (by have := HSL.out; omega) ?_; intro v' w9 q1 q2 q3))
              have hv8 : CellsAt wx (fun q => Y + 1 ≤ q ∧ (Value.slice aL acc.length cL).ownBlock ≠ some q ∧ q < wx.heap.size) (valC y) cs := CellsAt.weaken (fun q hq h => by have h : w20.heap.size ≤ q := h; exact ⟨by omega, fun hv => (by have := (HFL.out q hv).2; omega), hq⟩) _ _ HV6.out
              have hp1 := HP1.out; have hp2 := HP2.out
              have hrow := OwnRow.append (rs := acc.map valC) (r := valC y) (by rw [List.length_map]; exact hp1) hp2 e4 hv8 (by rw [List.length_map]; exact q1) q2 q3
              exact ⟨rfl, _, rfl, HTT.out _ _ (⟨hrow, fun q hq => (q3 q hq).imp id (fun h => Nat.le_trans HSL.out h), H6.out.only q2 (fun k hk h => by have := (HFL.out k h).1; omega)⟩) (q2)⟩
            · intro x wx ox hN TT HTT
              have ox : Only (fun q => (fun q => q = b) q ∨ (fun q => (Value.slice aL acc.length cL).ownBlock = some q) q) _ wx := ox
              have r92 : x 0 = (.pointer (some ⟨Y, 4, none⟩)) := hN.1 rfl
              have r93 : x 1 = (.slice aL acc.length cL) := hN.2.1 rfl
              have r94 : x 2 = (.pointer (some ⟨b, 0, none⟩)) := hN.2.2.1 rfl
              have r95 : x 3 = (.bool fixed) := hN.2.2.2.1 rfl
              have r96 : (fun (v : Value) (w1 : World) => ∃ (k' : Nat) (n' : Int) (s' : List UInt8) (ak' : Option Addr) (lk' ck' : Nat) (av' : Option Addr) (lv' cv' : Nat), v = .agg #[.int .u8 k', .int .i64 n', .string ⟨s'.toArray⟩, .slice ak' lk' ck', .slice av' lv' cv'] ∧ CellsAt w1 (fun q => w20.heap.size ≤ q) (valC y) [.int .u8 k', .int .i64 n', .string ⟨s'.toArray⟩, .slice ak' lk' ck', .slice av' lv' cv'] ∧ RdP w1 b all rr (dp + 1)) (x 4) wx := hN.2.2.2.2.1 rfl
              have r97 : (fun (v : Value) (w1 : World) => ∃ (g : Nat) (cs : List Value), v = .slice (some ⟨g, 0, none⟩) 1 1 ∧ w20.heap.size ≤ g ∧ g < w1.heap.size ∧ cs.length = 5 ∧ w1.rangeAt g 0 cs ∧ CellsAt w1 (fun q => w20.heap.size ≤ q) (valC y) cs ∧ RdP w1 b all rr (dp + 1)) (x 5) wx := hN.2.2.2.2.2.1 rfl
              have r98 : (fun (v : Value) (w1 : World) => OwnRow w1 (Y + 1) 37 5 v (acc.map valC ++ [valC y]) ∧ (∀ q, v.ownBlock = some q → (Value.slice aL acc.length cL).ownBlock = some q ∨ w20.heap.size ≤ q) ∧ RdP w1 b all rr (dp + 1)) (x 6) wx := hN.2.2.2.2.2.2.1 rfl
              clear hN
              unfold StepTo
              simp only [putAll, Act.put, List.setIfInBounds_toArray, List.set_cons_succ, List.set_cons_zero, r92, r93, r94, r95]
              clear r92 r93 r94 r95
              go_wp2_with fail
              exact ⟨rfl, _, rfl, HTT.out _ _ (rfl) (Only.refl _ _)⟩
            intro xb wxb oxb hN
            have oxb : Only (fun q => (fun q => q = b) q ∨ (fun q => (Value.slice aL acc.length cL).ownBlock = some q) q) _ wxb := oxb
            have r92 : xb 0 = (.pointer (some ⟨Y, 4, none⟩)) := hN.1
            have r93 : xb 1 = (.slice aL acc.length cL) := hN.2.1
            have r94 : xb 2 = (.pointer (some ⟨b, 0, none⟩)) := hN.2.2.1
            have r95 : xb 3 = (.bool fixed) := hN.2.2.2.1
            have r96 : (fun (v : Value) (w1 : World) => ∃ (k' : Nat) (n' : Int) (s' : List UInt8) (ak' : Option Addr) (lk' ck' : Nat) (av' : Option Addr) (lv' cv' : Nat), v = .agg #[.int .u8 k', .int .i64 n', .string ⟨s'.toArray⟩, .slice ak' lk' ck', .slice av' lv' cv'] ∧ CellsAt w1 (fun q => w20.heap.size ≤ q) (valC y) [.int .u8 k', .int .i64 n', .string ⟨s'.toArray⟩, .slice ak' lk' ck', .slice av' lv' cv'] ∧ RdP w1 b all rr (dp + 1)) (xb 4) wxb := hN.2.2.2.2.1
            have r97 : (fun (v : Value) (w1 : World) => ∃ (g : Nat) (cs : List Value), v = .slice (some ⟨g, 0, none⟩) 1 1 ∧ w20.heap.size ≤ g ∧ g < w1.heap.size ∧ cs.length = 5 ∧ w1.rangeAt g 0 cs ∧ CellsAt w1 (fun q => w20.heap.size ≤ q) (valC y) cs ∧ RdP w1 b all rr (dp + 1)) (xb 5) wxb := hN.2.2.2.2.2.1
            have r98 : (fun (v : Value) (w1 : World) => OwnRow w1 (Y + 1) 37 5 v (acc.map valC ++ [valC y]) ∧ (∀ q, v.ownBlock = some q → (Value.slice aL acc.length cL).ownBlock = some q ∨ w20.heap.size ≤ q) ∧ RdP w1 b all rr (dp + 1)) (xb 6) wxb := hN.2.2.2.2.2.2.1
            have r99 : xb 7 = (.pointer (some ⟨Y, 4, none⟩)) := hN.2.2.2.2.2.2.2.1
            clear hN
            simp only [putAll, Act.put, List.setIfInBounds_toArray, List.set_cons_succ, List.set_cons_zero, r92, r93, r94, r95, r99]
            clear r92 r93 r94 r95 r99
            obtain ⟨q1, q2, q5⟩ := r98
            obtain ⟨aL', cL', eL', gL1, gL2, gL3⟩ := q1.form
            rw [List.length_append, List.length_map, List.length_singleton] at eL' gL1
            rw [eL'] at q1 q2 gL3 ⊢
            have gL2n : cL' ≤ 9223372036854775807 := by unfold maxLen at gL2; omega
            have hYb := (oxb.block _ hY20 (fun h => by rcases h with h | h; omega; (have := (HFL.out _ h).1; omega))).trans HY20.out
            have hBb := (oxb.block _ (by omega : B < w20.heap.size) (fun h => by rcases h with h | h; omega; (have := (HFL.out _ h).1; omega))).trans HB20.out
            obtain ⟨c0, c1, c2, c3, c4, hfz⟩ := box5 hYb
            have hY6 := heap_set (o := 4) hYb (.slice aL' (acc.length + 1) cL')
            have hY6 : (wxb.setCell ⟨Y, 4, none⟩ (.slice aL' (acc.length + 1) cL')).heap[Y]? = some (.cells #[.int .u8 5, .int .i64 0, .string ⟨#[]⟩, .slice none 0 0, .slice aL' (acc.length + 1) cL'] 37 (0, 0)) := by simpa using hY6
            have hB6 := heap_set_ne (a := ⟨Y, 4, none⟩) hBb (by show B ≠ Y; omega) (.slice aL' (acc.length + 1) cL')
            have o6 := (Only.refl (fun k => k = Y) wxb).setCell (p := ⟨Y, 4, none⟩) (.inl rfl) (.slice aL' (acc.length + 1) cL')
            have hrd6 := q5.only o6 (fun k hk e => by omega)
            have hob : Only (fun q => q = b ∨ q = Y ∨ (Value.slice aL acc.length cL).ownBlock = some q) w20 (wxb.setCell ⟨Y, 4, none⟩ (.slice aL' (acc.length + 1) cL')) := ((((Only.refl _ w20).drew).trans' oxb (fun q _ h => h.imp id .inr)).trans' o6 (fun q _ h => .inr (.inl h)))
            have hW6 := q1.only o6 (fun k h1 h2 e => by omega)
            have hO6 : Only (fun k => k = b) w (wxb.setCell ⟨Y, 4, none⟩ (.slice aL' (acc.length + 1) cL')) := HO20.out.trans' hob (fun q hq h => by rcases h with h | h | h; exact h; omega; (have := (HFL.out q h).1; omega))
            have hpos6 := hrd6.pos
            have hNEW : LInv w Y B b all (dp + 1) (valueP fixed d) r' (wxb.setCell ⟨Y, 4, none⟩ (.slice aL' (acc.length + 1) cL')) := ⟨acc ++ [y], rr, .slice aL' (acc.length + 1) cL', hY6, by rw [List.map_append, List.map_singleton]; exact hW6, hrd6, hB6, hO6, by have h1 := HFEW.out; have h2 := HLT.out; rw [List.length_append, List.length_singleton]; omega, n, by have h1 := HN.out; have h2 := HLT.out; omega, HNEW.out⟩
            have HNEW2 := Lib.hid hNEW; have HPOS6 := Lib.hid hpos6
            clear hNEW hpos6 hO6 hW6 hob hrd6 o6 hB6 hY6 q1 q2 q5 gL2 gL3 eL' hYb hBb oxb
            go_wp2_with fail
            go_roundw
            case rel => exact HNEW2
            case measure => have h1 := HPOS.out; have h2 := HPOS6.out; have h3 := HLT.out; omega 
      rw [if_neg (by decide)] at H8
      have T := Lib.hid (take_any b all (t :: r') (dp + 1) [123] w8 H8.out)
      unfold tookP at T
      obtain ⟨b10, hb10⟩ : ∃ b10, isT [123] (t :: r') = b10 := ⟨_, rfl⟩
      rw [hb10] at T
      have q10 := Lib.hid hb10; clear hb10
      go_wp2_with fail
      refine T.out.mono ?_
      rintro e w9 ⟨rfl, h4, o4⟩
      have hr4 := (o4.block B (Array.getElem?_eq_some_iff.1 HR8.out).1 (by omega)).trans HR8.out
      have H9 := Lib.hid h4; have HR9 := Lib.hid hr4; have HO9 := Lib.hid (HO8.out.trans o4)
      clear h4 hr4 o4 T
      cases b10
      rotate_left
      · have he : valueB fixed (valueP fixed d) (t :: r') = (anyP (pairP (valueP fixed d)) [125] (r'.length + 1) [] r').bind fun ps r1 => .ok (.mk 6 0 [] (ps.map (·.1)) (ps.map (·.2))) r1 := by rw [valueB_cons, if_neg q2, if_neg q3, if_neg (by rw [q4.out]; decide), if_neg (by rw [q5.out]; decide), if_neg (by rw [q6.out]; decide), if_neg q7, if_neg (by rw [q8.out]; decide), if_neg (by rw [q9.out]; decide), if_pos q10.out]
        have HS := Lib.hid he; clear he
        rw [if_pos rfl] at H9
        have hY8 : B < w9.heap.size := (Array.getElem?_eq_some_iff.1 HR9.out).1
        obtain ⟨Y, hY⟩ : ∃ Y, w9.heap.size = Y := ⟨_, rfl⟩
        rw [hY] at hY8
        obtain ⟨w10, hw9⟩ : ∃ w10, w10 = w9.alloc (.cells #[.int .u8 6, .int .i64 0, .string ⟨#[]⟩, .slice none 0 0, .slice none 0 0] 37) := ⟨_, rfl⟩
        have hy9 : w10.heap[Y]? = some (.cells #[.int .u8 6, .int .i64 0, .string ⟨#[]⟩, .slice none 0 0, .slice none 0 0] 37 (0, 0)) := by rw [hw9, ← hY]; exact heap_new _ _
        have hr9 : w10.heap[B]? = some (.cells #[.int .u8 0, .int .i64 0, .string ⟨#[]⟩, .slice none 0 0, .slice none 0 0] 37 (0, 0)) := by rw [hw9]; exact heap_old HR9.out _
        have hl9 : OInv w Y B b all (dp + 1) (valueP fixed d) r' w10 := ⟨[], r', .slice none 0 0, .slice none 0 0, hy9, OwnTwo.nil _ _ _ _ _ _, by rw [hw9]; exact H9.out.still ((Only.refl (fun _ => False) w9).alloc _), hr9, by rw [hw9]; exact HO9.out.alloc _, by have h1 : posOf w9 b + r'.length = all.length := H9.out.pos; have h2 := H9.out.few; simp only [List.length_nil]; omega, r'.length + 1, by omega, rfl⟩
        have HL9 := Lib.hid hl9; have HW9 := Lib.hid hw9; have HY := Lib.hid hY
        clear hl9 hw9 hY hy9 hr9
        go_upto_region 28 with (fail)
        rw [HY.out, ← HW9.out]
        clear HW9 HY
        go_loopw [] (fun wr => Hid (OInv w Y B b all (dp + 1) (valueP fixed d) r' wr)) (fun wr => all.length - posOf wr b)
        case atStart => exact HL9
      
        case round =>
          obtain ⟨acc, rest, vK, vL, hy, hown, hrd, hrb, hon, hfew, n, hn, heq⟩ := hrel.out
          obtain ⟨n, rfl⟩ : ∃ m, n = m + 1 := ⟨n - 1, by omega⟩
          rw [anyP] at heq
          have hpos := hrd.pos
          have hbY : b < Y := by omega
          have T := Lib.hid (take_any b all rest (dp + 1) [125] wr hrd)
          unfold tookP at T
          obtain ⟨bb, hbb⟩ : ∃ bb, isT [125] rest = bb := ⟨_, rfl⟩
          rw [hbb] at T heq
          have HY9 := Lib.hid hy; have HW9 := Lib.hid hown; have HB9 := Lib.hid hrb; have HO9 := Lib.hid hon; have HN := Lib.hid hn; have HEQ := Lib.hid heq; have HPOS := Lib.hid hpos; have HFEW := Lib.hid hfew
          clear hy hown hrb hon hn heq hpos hrel hrd hbb HL9 hfew
          go_wp2_with fail
          refine T.out.mono ?_
          rintro e w20 ⟨rfl, h4, o4⟩
          have hy4 := (o4.block Y (Array.getElem?_eq_some_iff.1 HY9.out).1 (by omega)).trans HY9.out
          have hb4 := (o4.block B (Array.getElem?_eq_some_iff.1 HB9.out).1 (by omega)).trans HB9.out
          have hw4 := HW9.out.only o4 (fun k h1 h2 e => by omega)
          obtain ⟨aK, cK, eK, gK1, gK2, gK3⟩ := hw4.left.form
          obtain ⟨aL, cL, eL, fL1, fL2, fL3⟩ := hw4.right.form
          rw [List.length_map] at eL fL1 eK gK1
          subst eL; subst eK
          have gK2n : cK ≤ 9223372036854775807 := by unfold maxLen at gK2; omega
          have fL2n : cL ≤ 9223372036854775807 := by unfold maxLen at fL2; omega
          have hY20 : Y < w20.heap.size := (Array.getElem?_eq_some_iff.1 hy4).1
          have H20 := Lib.hid h4; have HY20 := Lib.hid hy4; have HB20 := Lib.hid hb4; have HW20 := Lib.hid hw4; have HO20 := Lib.hid (HO9.out.trans o4); have HFL := Lib.hid fL3; have HFK := Lib.hid gK3
          clear h4 hy4 hb4 hw4 o4 T HY9 HB9 HW9 HO9 fL2 fL3 gK2 gK3
          obtain ⟨c0, c1, c2, c3, c4, fz⟩ := box5 HY20.out
          cases bb
          rotate_left
          · have he := HS.out.trans (bind_ok (HEQ.out.symm.trans (if_pos rfl)))
            have HE := Lib.hid he; clear he
            rw [if_pos rfl] at H20
            go_wp2_with ((refine wpList_store_box (o := ⟨none, _, _, _, _, _⟩) rfl 37 (.tmp 4) (.tmp 125) (by rfl) B [.int .u8 0, .int .i64 0, .string ⟨#[]⟩, .slice none 0 0, .slice none 0 0] [.int .u8 6, .int .i64 0, .string ⟨#[]⟩, .slice aK acc.length cK, .slice aL acc.length cL] (by rfl) (by rfl) HB20.out (by rfl) (by kernel_rfl) (by intro u hu; simp at hu; rcases hu with rfl | rfl | rfl | rfl | rfl <;> rfl) ?_; intro w9 k1 k2))
            refine door_ok (dp := dp + 1) (H20.out.only k2 (fun k hk e => by omega)) (by omega) (by omega) (fun w' h6 o6 => ?_)
            have hB9 := (o6.block B (Array.getElem?_eq_some_iff.1 k1).1 (by omega)).trans k1
            obtain ⟨y0, y1, y2, y3, y4, -⟩ := box5 hB9
            exact ⟨.agg #[.int .u8 6, .int .i64 0, .string ⟨#[]⟩, .slice aK acc.length cK, .slice aL acc.length cL], by simp [results, Tryz.results75, go_sem, y0, y1, y2, y3, y4], FO.out _ rest.tail w' _ HE.out ⟨_, rfl, objC (CellAt.weaken (fun q _ h => by have h : Y + 1 ≤ q := h; show B ≤ q; omega) _ _ (OwnRow.cell ((HW20.out.left.only k2 (fun k h1 h2 e => by omega)).only o6 (fun k h1 h2 e => by omega)))) (CellAt.weaken (fun q _ h => by have h : Y + 1 ≤ q := h; show B ≤ q; omega) _ _ (OwnRow.cell ((HW20.out.right.only k2 (fun k h1 h2 e => by omega)).only o6 (fun k h1 h2 e => by omega))))⟩ (by rw [show dp = dp + 1 - 1 from by omega]; exact h6) ((HO20.out.trans' k2 (fun q hq e => by omega)).trans o6)⟩
          rw [if_neg (by decide)] at H20
          have heq2 := HEQ.out
          rw [if_neg (by decide)] at heq2
          have HEQ2 := Lib.hid heq2; clear heq2 HEQ
          cases hq : nameP rest with
          | bad a c =>
            have J : ∀ wx, Only (fun _ => False) w20 wx → Calls Tryz.prog 88 #[.pointer (some ⟨b, 0, none⟩)] wx (Ans wx b all (dp + 1) strP (.bad a c)) := fun wx o => by
              have := name_any b all rest (dp + 1) wx (H20.out.still o)
              rw [hq] at this; exact this
            have hf : anyP (pairP (valueP fixed d)) [125] (r'.length + 1) [] r' = .bad a c := HEQ2.out.symm.trans (bind_bad (bind_bad hq))
            have J := Lib.hid J
            have HE := Lib.hid (HS.out.trans (bind_bad hf)); clear hq hf
            go_upto_region 29 with (fail)
            refine Code.wp_mono (Q := fun e av wv => e = Exit.panic (faultV c) ∧ av.defers = [{ target := Target.fn (Fn.func 85) #[], args := #[.pointer (some ⟨b, 0, none⟩)] }] ∧ Only (fun k => k = b) w20 wv ∧ ∃ (r'' : List Tok) (dp' : Int), RdP wv b all r'' dp' ∧ atT r'' = a ∧ dp + 1 ≤ dp' ∧ dp' ≤ dp + 1 + 1) ?_ ?_
            · rintro e ⟨tm, df⟩ w8 ⟨rfl, hdf, o5, r'', dp', h5, ha, l1, l2⟩
              have hdf : df = _ := hdf
              subst hdf
              exact door_bad h5 (by omega) (by omega) (fun w' h6 o6 => FB.out a c w' r'' (dp' - 1) HE.out h6 ha (by omega) (by omega) ((HO20.out.trans o5).trans o6))
            · go_region_dies
              all_goals (refine (J.out _ ((Only.refl _ w20).drew)).mono ?_; rintro e w8 ⟨rfl, ⟨r'', dp', h5, ha, l1, l2⟩, o5⟩; exact ⟨rfl, ((Only.refl _ w20).drew).trans o5, r'', dp', h5, ha, l1, l2⟩)
          | ok s r1 =>
            have J : ∀ wx, Only (fun _ => False) w20 wx → Calls Tryz.prog 88 #[.pointer (some ⟨b, 0, none⟩)] wx (Ans wx b all (dp + 1) strP (.ok s r1)) := fun wx o => by
              have := name_any b all rest (dp + 1) wx (H20.out.still o)
              rw [hq] at this; exact this
            have J := Lib.hid J; have HQ1 := Lib.hid hq
            clear hq
            go_upto_region 29 with (fail)
            clear c0 c1 c2 c3 c4
            refine wp_region_stepsM 7 (by kernel_rfl) rfl (by kernel_rfl) [some 108, some 109, some 110, some 111, some 112, some 113, some 114] rfl rfl 3 5 (fun q => q = b) (fun q => (Value.slice aK acc.length cK).ownBlock = some q) [4, 5, 6, 7] (by kernel_rfl) [2] (by kernel_rfl) (by decide) (by decide) (.inr ⟨by decide, by decide⟩) [(fun v _ => v = (.pointer (some ⟨Y, 3, none⟩))), (fun v _ => v = (.slice aK acc.length cK)), (fun v _ => v = (.pointer (some ⟨b, 0, none⟩))), (fun v w1 => v = .string ⟨s.toArray⟩ ∧ RdP w1 b all r1 (dp + 1)), (fun v w1 => ∃ (g : Nat), v = .slice (some ⟨g, 0, none⟩) 1 1 ∧ w20.heap.size ≤ g ∧ g < w1.heap.size ∧ w1.rangeAt g 0 [.string ⟨s.toArray⟩] ∧ RdP w1 b all r1 (dp + 1)), (fun v w1 => OwnTwo w1 (Y + 1) 9 37 1 5 v (.slice aL acc.length cL) (acc.map (fun p => [strC p.1]) ++ [[strC s]]) (acc.map fun p => valC p.2) ∧ (∀ q, v.ownBlock = some q → (Value.slice aK acc.length cK).ownBlock = some q ∨ w20.heap.size ≤ q) ∧ RdP w1 b all r1 (dp + 1)), (fun v _ => v = (.pointer (some ⟨Y, 3, none⟩)))] rfl ⟨?_, ?_, ?_, ?_, ?_, ?_, ?_, trivial⟩ _ rfl ⟨?_, ?_, ?_, ?_, ?_, ?_, ?_, trivial⟩ ?_
            · exact Stable.is _ _
            · exact Stable.is _ _
            · exact Stable.is _ _
            · intro v w1 w2 h ho
              have ho : Only (fun q => (Value.slice aK acc.length cK).ownBlock = some q) w1 w2 := ho
              exact (by obtain ⟨e1, e3⟩ := h; exact ⟨e1, e3.only ho (fun k hk h => by have := (HFK.out k h).1; omega)⟩)
            · intro v w1 w2 h ho
              have ho : Only (fun q => (Value.slice aK acc.length cK).ownBlock = some q) w1 w2 := ho
              exact (by obtain ⟨g, e1, e2, e3, e5, e7⟩ := h; have hng : ¬ (Value.slice aK acc.length cK).ownBlock = some g := fun hk => (by have := (HFK.out g hk).2; omega); exact ⟨g, e1, e2, Nat.lt_of_lt_of_le e3 ho.size, range_keep e5 e3 ho hng, e7.only ho (fun k hk h => by have := (HFK.out k h).1; omega)⟩)
            · intro v w1 w2 h ho
              have ho : Only (fun _ => False) w1 w2 := ho
              exact (by obtain ⟨e1, e2, e3⟩ := h; exact ⟨e1.only ho (fun _ _ _ h => h), e2, e3.still ho⟩)
            · exact Stable.is _ _
            · intro x wx ox hN TT HTT
              have ox : Only (fun q => (fun q => q = b) q ∨ (fun q => (Value.slice aK acc.length cK).ownBlock = some q) q) _ wx := ox
              clear hN
              unfold StepTo
              simp only [putAll, Act.put, List.setIfInBounds_toArray, List.set_cons_succ, List.set_cons_zero]
              go_wp2_with fail
              exact ⟨rfl, _, rfl, HTT.out _ _ (rfl) (Only.refl _ _)⟩
            · intro x wx ox hN TT HTT
              have ox : Only (fun q => (fun q => q = b) q ∨ (fun q => (Value.slice aK acc.length cK).ownBlock = some q) q) _ wx := ox
              have r108 : x 0 = (.pointer (some ⟨Y, 3, none⟩)) := hN.1 rfl
              clear hN
              unfold StepTo
              simp only [putAll, Act.put, List.setIfInBounds_toArray, List.set_cons_succ, List.set_cons_zero, r108]
              clear r108
              have hbx := (ox.block _ hY20 (fun h => by rcases h with h | h; omega; (have := (HFK.out _ h).1; omega))).trans HY20.out
              obtain ⟨c0, c1, c2, c3, c4, -⟩ := box5 hbx
              clear hbx
              go_wp2_with fail
              exact ⟨rfl, _, rfl, HTT.out _ _ (rfl) (Only.refl _ _)⟩
            · intro x wx ox hN TT HTT
              have ox : Only (fun _ => False) _ wx := ox
              clear hN
              unfold StepTo
              simp only [putAll, Act.put, List.setIfInBounds_toArray, List.set_cons_succ, List.set_cons_zero]
              go_wp2_with fail
              exact ⟨rfl, _, rfl, HTT.out _ _ (rfl) (Only.refl _ _)⟩
            · intro x wx ox hN TT HTT
              have ox : Only (fun _ => False) _ wx := ox
              have r110 : x 2 = (.pointer (some ⟨b, 0, none⟩)) := hN.1 rfl
              clear hN
              unfold StepTo
              simp only [putAll, Act.put, List.setIfInBounds_toArray, List.set_cons_succ, List.set_cons_zero, r110]
              clear r110
              have ht := J.out wx (((Only.refl _ w20).drew).trans ox)
              have HT := Lib.hid ht; clear ht
              go_wp2_with fail
              refine HT.out.mono ?_
              rintro e w6 ⟨v6, rfl, hv6, h6, o6⟩
              have hv6 : v6 = .string ⟨s.toArray⟩ := hv6
              subst hv6
              have H6 := Lib.hid h6; have O6 := Lib.hid o6; clear h6 o6
              go_wp2_with fail
              exact ⟨rfl, _, rfl, HTT.out _ _ (⟨rfl, H6.out⟩) (O6.out)⟩
            · intro x wx ox hN TT HTT
              have ox : Only (fun q => (fun q => q = b) q ∨ (fun q => (Value.slice aK acc.length cK).ownBlock = some q) q) _ wx := ox
              have r111 : (fun (v : Value) (w1 : World) => v = .string ⟨s.toArray⟩ ∧ RdP w1 b all r1 (dp + 1)) (x 3) wx := hN.1 rfl
              clear hN
              unfold StepTo
              simp only [putAll, Act.put, List.setIfInBounds_toArray, List.set_cons_succ, List.set_cons_zero]
              obtain ⟨e1, e3⟩ := r111
              simp only [e1]
              have hn := heap_new wx (.cells #[.string ⟨s.toArray⟩] 9)
              have on := (Only.refl (fun _ => False) wx).alloc (.cells #[.string ⟨s.toArray⟩] 9)
              have hgl : w20.heap.size ≤ wx.heap.size := ox.size
              have H3 := Lib.hid e3; have HNB := Lib.hid hn; have ON := Lib.hid on; have HGL2 := Lib.hid hgl; clear e1 e3 hn on hgl
              go_wp2_with fail
              exact ⟨rfl, _, rfl, HTT.out _ _ (⟨wx.heap.size, rfl, HGL2.out, by simp, range_of_block HNB.out, H3.out.still ON.out⟩) (ON.out)⟩
            · intro x wx ox hN TT HTT
              have ox : Only (fun q => q = b) _ wx := ox
              have r109 : x 1 = (.slice aK acc.length cK) := hN.1 rfl
              have r112 : (fun (v : Value) (w1 : World) => ∃ (g : Nat), v = .slice (some ⟨g, 0, none⟩) 1 1 ∧ w20.heap.size ≤ g ∧ g < w1.heap.size ∧ w1.rangeAt g 0 [.string ⟨s.toArray⟩] ∧ RdP w1 b all r1 (dp + 1)) (x 4) wx := hN.2.1 rfl
              have r111 : (fun (v : Value) (w1 : World) => v = .string ⟨s.toArray⟩ ∧ RdP w1 b all r1 (dp + 1)) (x 3) wx := hN.2.2.1 rfl
              clear hN
              unfold StepTo
              simp only [putAll, Act.put, List.setIfInBounds_toArray, List.set_cons_succ, List.set_cons_zero, r109]
              clear r109
              obtain ⟨g, e1, e2, e3, e5, e7⟩ := r112
              simp only [e1]
              have htw := (HW20.out.only (((Only.refl _ w20).drew).trans ox) (fun k h1 h2 e => by omega)).swap
              obtain ⟨xs, p1, p2⟩ := htw.l
              have hys : ∀ j u, [Value.string ⟨s.toArray⟩][j]? = some u → wx.cell? ((⟨g, 0, none⟩ : Addr).add j) = some u := fun j u hu => by rw [addr_add]; exact e5 j u hu
              have hsl : w20.heap.size ≤ wx.heap.size := ox.size
              have hkb : (acc.length + 1) ≤ 1000001 := by have h2 := HFEW.out; omega
              have HTW := Lib.hid htw; have HP1 := Lib.hid p1; have HP2 := Lib.hid p2; have HYS := Lib.hid hys; have HSL := Lib.hid hsl; have HKB2 := Lib.hid hkb; have H6 := Lib.hid e7; clear p1 p2 hys hsl hkb e7 e5 e1 htw
              rw [List.length_map] at HP1
              go_wp2_with ((refine wpList_append_own2 (o := ⟨some 113, _, _, _, _, _⟩) rfl (.tmp 109) (.tmp 112) 32 9 (by rfl) Tryz.underlying32 infoStr rfl (by decide) (Y + 1) (.slice aK acc.length cK) acc.length 1 1 xs [.string ⟨s.toArray⟩] ⟨g, 0, none⟩ (by rfl) (by rfl) HP1.out (by rfl) HYS.out (by intro u hu; simp at hu; subst hu; rfl) (by have := HKB2.out; unfold maxLen; omega) (by have := HKB2.out; omega) (by have := HSL.out; omega) ?_; intro v' w9 q1 q2 q3))
              have hp1 := HP1.out; have hp2 := HP2.out
              have hrow := OwnTwo.append (r := [strC s]) HTW.out (by rw [List.length_map]; exact hp1) hp2 rfl (CellsAt.lit rfl (CellsAt.nil _ _)) (by rw [List.length_map]; exact q1) q2 q3
              exact ⟨rfl, _, rfl, HTT.out _ _ (⟨hrow.swap, fun q hq => (q3 q hq).imp id (fun h => Nat.le_trans HSL.out h), H6.out.only q2 (fun k hk h => by have := (HFK.out k h).1; omega)⟩) (q2)⟩
            · intro x wx ox hN TT HTT
              have ox : Only (fun q => (fun q => q = b) q ∨ (fun q => (Value.slice aK acc.length cK).ownBlock = some q) q) _ wx := ox
              have r108 : x 0 = (.pointer (some ⟨Y, 3, none⟩)) := hN.1 rfl
              have r109 : x 1 = (.slice aK acc.length cK) := hN.2.1 rfl
              have r110 : x 2 = (.pointer (some ⟨b, 0, none⟩)) := hN.2.2.1 rfl
              have r111 : (fun (v : Value) (w1 : World) => v = .string ⟨s.toArray⟩ ∧ RdP w1 b all r1 (dp + 1)) (x 3) wx := hN.2.2.2.1 rfl
              have r112 : (fun (v : Value) (w1 : World) => ∃ (g : Nat), v = .slice (some ⟨g, 0, none⟩) 1 1 ∧ w20.heap.size ≤ g ∧ g < w1.heap.size ∧ w1.rangeAt g 0 [.string ⟨s.toArray⟩] ∧ RdP w1 b all r1 (dp + 1)) (x 4) wx := hN.2.2.2.2.1 rfl
              have r113 : (fun (v : Value) (w1 : World) => OwnTwo w1 (Y + 1) 9 37 1 5 v (.slice aL acc.length cL) (acc.map (fun p => [strC p.1]) ++ [[strC s]]) (acc.map fun p => valC p.2) ∧ (∀ q, v.ownBlock = some q → (Value.slice aK acc.length cK).ownBlock = some q ∨ w20.heap.size ≤ q) ∧ RdP w1 b all r1 (dp + 1)) (x 5) wx := hN.2.2.2.2.2.1 rfl
              clear hN
              unfold StepTo
              simp only [putAll, Act.put, List.setIfInBounds_toArray, List.set_cons_succ, List.set_cons_zero, r108, r109, r110]
              clear r108 r109 r110
              go_wp2_with fail
              exact ⟨rfl, _, rfl, HTT.out _ _ (rfl) (Only.refl _ _)⟩
            intro xb wxb oxb hN
            have oxb : Only (fun q => (fun q => q = b) q ∨ (fun q => (Value.slice aK acc.length cK).ownBlock = some q) q) _ wxb := oxb
            have r108 : xb 0 = (.pointer (some ⟨Y, 3, none⟩)) := hN.1
            have r109 : xb 1 = (.slice aK acc.length cK) := hN.2.1
            have r110 : xb 2 = (.pointer (some ⟨b, 0, none⟩)) := hN.2.2.1
            have r111 : (fun (v : Value) (w1 : World) => v = .string ⟨s.toArray⟩ ∧ RdP w1 b all r1 (dp + 1)) (xb 3) wxb := hN.2.2.2.1
            have r112 : (fun (v : Value) (w1 : World) => ∃ (g : Nat), v = .slice (some ⟨g, 0, none⟩) 1 1 ∧ w20.heap.size ≤ g ∧ g < w1.heap.size ∧ w1.rangeAt g 0 [.string ⟨s.toArray⟩] ∧ RdP w1 b all r1 (dp + 1)) (xb 4) wxb := hN.2.2.2.2.1
            have r113 : (fun (v : Value) (w1 : World) => OwnTwo w1 (Y + 1) 9 37 1 5 v (.slice aL acc.length cL) (acc.map (fun p => [strC p.1]) ++ [[strC s]]) (acc.map fun p => valC p.2) ∧ (∀ q, v.ownBlock = some q → (Value.slice aK acc.length cK).ownBlock = some q ∨ w20.heap.size ≤ q) ∧ RdP w1 b all r1 (dp + 1)) (xb 5) wxb := hN.2.2.2.2.2.1
            have r114 : xb 6 = (.pointer (some ⟨Y, 3, none⟩)) := hN.2.2.2.2.2.2.1
            clear hN
            simp only [putAll, Act.put, List.setIfInBounds_toArray, List.set_cons_succ, List.set_cons_zero, r108, r109, r110, r114]
            clear r108 r109 r110 r114
            obtain ⟨q1, q2, q5⟩ := r113
            obtain ⟨aK', cK', eK', gL1, gL2, gL3⟩ := q1.left.form
            rw [List.length_append, List.length_map, List.length_singleton] at eK' gL1
            rw [eK'] at q1 q2 gL3 ⊢
            have gK2n' : cK' ≤ 9223372036854775807 := by unfold maxLen at gL2; omega
            have hYb := (oxb.block _ hY20 (fun h => by rcases h with h | h; omega; (have := (HFK.out _ h).1; omega))).trans HY20.out
            have hBb := (oxb.block _ (by omega : B < w20.heap.size) (fun h => by rcases h with h | h; omega; (have := (HFK.out _ h).1; omega))).trans HB20.out
            obtain ⟨c0, c1, c2, c3, c4, hfz⟩ := box5 hYb
            have hY6 := heap_set (o := 3) hYb (.slice aK' (acc.length + 1) cK')
            have hY6 : (wxb.setCell ⟨Y, 3, none⟩ (.slice aK' (acc.length + 1) cK')).heap[Y]? = some (.cells #[.int .u8 6, .int .i64 0, .string ⟨#[]⟩, .slice aK' (acc.length + 1) cK', .slice aL acc.length cL] 37 (0, 0)) := by simpa using hY6
            have hB6 := heap_set_ne (a := ⟨Y, 3, none⟩) hBb (by show B ≠ Y; omega) (.slice aK' (acc.length + 1) cK')
            have o6 := (Only.refl (fun k => k = Y) wxb).setCell (p := ⟨Y, 3, none⟩) (.inl rfl) (.slice aK' (acc.length + 1) cK')
            have hrd6 := q5.only o6 (fun k hk e => by omega)
            have hob : Only (fun q => q = b ∨ q = Y ∨ (Value.slice aK acc.length cK).ownBlock = some q) w20 (wxb.setCell ⟨Y, 3, none⟩ (.slice aK' (acc.length + 1) cK')) := ((((Only.refl _ w20).drew).trans' oxb (fun q _ h => h.imp id .inr)).trans' o6 (fun q _ h => .inr (.inl h)))
            have hW6 := q1.only o6 (fun k h1 h2 e => by omega)
            have hO6 : Only (fun k => k = b) w (wxb.setCell ⟨Y, 3, none⟩ (.slice aK' (acc.length + 1) cK')) := HO20.out.trans' hob (fun q hq h => by rcases h with h | h | h; exact h; omega; (have := (HFK.out q h).1; omega))
            obtain ⟨w21, hw21⟩ : ∃ w21, wxb.setCell ⟨Y, 3, none⟩ (.slice aK' (acc.length + 1) cK') = w21 := ⟨_, rfl⟩
            rw [hw21] at hY6 hB6 hrd6 hW6 hO6
            have HY21 := Lib.hid hY6; have HB21 := Lib.hid hB6; have H21 := Lib.hid hrd6; have HW21 := Lib.hid hW6; have HO21 := Lib.hid hO6; have HEW := Lib.hid hw21
            clear hY6 hB6 o6 hrd6 hob hW6 hO6 hYb hBb q1 q2 q5 gL2 gL3 eK' oxb HFK HW20 HY20 HB20 H20 HO20 J hw21
            go_upto_region 30 with (fail)
            rw [HEW.out]
            clear HEW c0 c1 c2 c3 c4 hfz
            have J2 := Lib.hid (want_any b all r1 (dp + 1) [58] w21 H21.out)
            cases hq2 : wantP [58] r1 with
            | bad a c =>
              rw [hq2] at J2
              have hf : anyP (pairP (valueP fixed d)) [125] (r'.length + 1) [] r' = .bad a c := HEQ2.out.symm.trans (bind_bad ((bind_ok HQ1.out).trans (bind_bad hq2)))
              have HE := Lib.hid (HS.out.trans (bind_bad hf)); clear hq2 hf
              go_wp2_with fail
              refine J2.out.mono ?_
              rintro e w8 ⟨rfl, ⟨r'', dp', h5, ha, l1, l2⟩, o5⟩
              exact door_bad h5 (by omega) (by omega) (fun w' h6 o6 => FB.out a c w' r'' (dp' - 1) HE.out h6 ha (by omega) (by omega) ((HO21.out.trans o5).trans o6))
            | ok u r2 =>
              rw [hq2] at J2
              have HQ2 := Lib.hid hq2; clear hq2
              go_wp2_with fail
              refine J2.out.mono ?_
              rintro e w22 ⟨v, rfl, hv, h4, o4⟩
              have hv : v = .tuple #[] := hv
              subst hv
              have hY21 : Y < w21.heap.size := (Array.getElem?_eq_some_iff.1 HY21.out).1
              have hy4 := (o4.block Y hY21 (by omega)).trans HY21.out
              have hb4 := (o4.block B (by omega) (by omega)).trans HB21.out
              have hw4 := HW21.out.only o4 (fun k h1 h2 e => by omega)
              obtain ⟨aL2, cL2, eL2, fL1', fL2', fL3'⟩ := hw4.right.form
              injection eL2 with eL3 eL5 eL4
              clear eL5 gL1 gK1 gK2n gK2n'
              subst eL3; subst eL4
              have hY22 : Y < w22.heap.size := (Array.getElem?_eq_some_iff.1 hy4).1
              have H22 := Lib.hid h4; have HY22 := Lib.hid hy4; have HB22 := Lib.hid hb4; have HW22 := Lib.hid hw4; have HO22 := Lib.hid (HO21.out.trans o4); have HFL := Lib.hid fL3'
              clear h4 hy4 hb4 hw4 o4 J2 HY21 HB21 HW21 HO21 fL2' fL1' fL3' hY21 H21
              obtain ⟨c0, c1, c2, c3, c4, fz⟩ := box5 HY22.out
              cases hq : valueP fixed d r2 with
              | bad a c =>
                have J : ∀ wx, Only (fun _ => False) w22 wx → Calls Tryz.prog 75 #[.pointer (some ⟨b, 0, none⟩), .bool fixed] wx (Ans wx b all (dp + 1) (aggP wx.heap.size valC) (.bad a c)) := fun wx o => by
                  have := IH.out b all r2 wx (H22.out.still o)
                  rw [hq] at this; exact this
                have hf : anyP (pairP (valueP fixed d)) [125] (r'.length + 1) [] r' = .bad a c := HEQ2.out.symm.trans (bind_bad ((bind_ok HQ1.out).trans ((bind_ok HQ2.out).trans (bind_bad hq))))
                have J := Lib.hid J
                have HE := Lib.hid (HS.out.trans (bind_bad hf)); clear hq hf
                go_upto_region 31 with (fail)
                refine Code.wp_mono (Q := fun e av wv => e = Exit.panic (faultV c) ∧ av.defers = [{ target := Target.fn (Fn.func 85) #[], args := #[.pointer (some ⟨b, 0, none⟩)] }] ∧ Only (fun k => k = b) w22 wv ∧ ∃ (r'' : List Tok) (dp' : Int), RdP wv b all r'' dp' ∧ atT r'' = a ∧ dp + 1 ≤ dp' ∧ dp' ≤ dp + 1 + 1) ?_ ?_
                · rintro e ⟨tm, df⟩ w8 ⟨rfl, hdf, o5, r'', dp', h5, ha, l1, l2⟩
                  have hdf : df = _ := hdf
                  subst hdf
                  exact door_bad h5 (by omega) (by omega) (fun w' h6 o6 => FB.out a c w' r'' (dp' - 1) HE.out h6 ha (by omega) (by omega) ((HO22.out.trans o5).trans o6))
                · go_region_dies
                  all_goals (refine (J.out _ ((Only.refl _ w22).drew)).mono ?_; rintro e w8 ⟨rfl, ⟨r'', dp', h5, ha, l1, l2⟩, o5⟩; exact ⟨rfl, ((Only.refl _ w22).drew).trans o5, r'', dp', h5, ha, l1, l2⟩)
              | ok y rr =>
                have J : ∀ wx, Only (fun _ => False) w22 wx → Calls Tryz.prog 75 #[.pointer (some ⟨b, 0, none⟩), .bool fixed] wx (Ans wx b all (dp + 1) (aggP wx.heap.size valC) (.ok y rr)) := fun wx o => by
                  have := IH.out b all r2 wx (H22.out.still o)
                  rw [hq] at this; exact this
                have hpair : pairP (valueP fixed d) rest = .ok (s, y) rr := (bind_ok HQ1.out).trans ((bind_ok HQ2.out).trans (bind_ok hq))
                have hnew : anyP (pairP (valueP fixed d)) [125] n (acc ++ [(s, y)]) rr = anyP (pairP (valueP fixed d)) [125] (r'.length + 1) [] r' := (bind_ok hpair).symm.trans HEQ2.out
                have hlt := pairP_takes (valueP_takes fixed d) rest (s, y) rr hpair
                have J := Lib.hid J; have HNEW := Lib.hid hnew; have HLT := Lib.hid hlt
                clear hq hnew hlt HEQ2 hpair HQ1 HQ2
                go_upto_region 31 with (fail)
                clear c0 c1 c2 c3 c4
                refine wp_region_stepsM 8 (by kernel_rfl) rfl (by kernel_rfl) [some 117, some 118, some 119, some 120, some 121, some 122, some 123, some 124] rfl rfl 4 6 (fun q => q = b) (fun q => (Value.slice aL acc.length cL).ownBlock = some q) [5, 6, 7, 8] (by kernel_rfl) [2, 3] (by kernel_rfl) (by decide) (by decide) (.inr ⟨by decide, by decide⟩) [(fun v _ => v = (.pointer (some ⟨Y, 4, none⟩))), (fun v _ => v = (.slice aL acc.length cL)), (fun v _ => v = (.pointer (some ⟨b, 0, none⟩))), (fun v _ => v = (.bool fixed)), (fun v w1 => ∃ (k' : Nat) (n' : Int) (s' : List UInt8) (ak' : Option Addr) (lk' ck' : Nat) (av' : Option Addr) (lv' cv' : Nat), v = .agg #[.int .u8 k', .int .i64 n', .string ⟨s'.toArray⟩, .slice ak' lk' ck', .slice av' lv' cv'] ∧ CellsAt w1 (fun q => w22.heap.size ≤ q) (valC y) [.int .u8 k', .int .i64 n', .string ⟨s'.toArray⟩, .slice ak' lk' ck', .slice av' lv' cv'] ∧ RdP w1 b all rr (dp + 1)), (fun v w1 => ∃ (g : Nat) (cs : List Value), v = .slice (some ⟨g, 0, none⟩) 1 1 ∧ w22.heap.size ≤ g ∧ g < w1.heap.size ∧ cs.length = 5 ∧ w1.rangeAt g 0 cs ∧ CellsAt w1 (fun q => w22.heap.size ≤ q) (valC y) cs ∧ RdP w1 b all rr (dp + 1)), (fun v w1 => OwnTwo w1 (Y + 1) 9 37 1 5 (.slice aK' (acc.length + 1) cK') v (acc.map (fun p => [strC p.1]) ++ [[strC s]]) (acc.map (fun p => valC p.2) ++ [valC y]) ∧ (∀ q, v.ownBlock = some q → (Value.slice aL acc.length cL).ownBlock = some q ∨ w22.heap.size ≤ q) ∧ RdP w1 b all rr (dp + 1)), (fun v _ => v = (.pointer (some ⟨Y, 4, none⟩)))] rfl ⟨?_, ?_, ?_, ?_, ?_, ?_, ?_, ?_, trivial⟩ _ rfl ⟨?_, ?_, ?_, ?_, ?_, ?_, ?_, ?_, trivial⟩ ?_
                · exact Stable.is _ _
                · exact Stable.is _ _
                · exact Stable.is _ _
                · exact Stable.is _ _
                · intro v w1 w2 h ho
                  have ho : Only (fun q => (Value.slice aL acc.length cL).ownBlock = some q) w1 w2 := ho
                  exact (by obtain ⟨k', n', s', ak', lk', ck', av', lv', cv', e1, e2, e3⟩ := h; exact ⟨k', n', s', ak', lk', ck', av', lv', cv', e1, CellsAt.only ho (fun q hq hk => by have := (HFL.out q hk).2; have hq : w22.heap.size ≤ q := hq; omega) _ _ e2, e3.only ho (fun k hk h => by have := (HFL.out k h).1; omega)⟩)
                · intro v w1 w2 h ho
                  have ho : Only (fun q => (Value.slice aL acc.length cL).ownBlock = some q) w1 w2 := ho
                  exact (by obtain ⟨g, cs, e1, e2, e3, e4, e5, e6, e7⟩ := h; have hng : ¬ (Value.slice aL acc.length cL).ownBlock = some g := fun hk => (by have := (HFL.out g hk).2; omega); exact ⟨g, cs, e1, e2, Nat.lt_of_lt_of_le e3 ho.size, e4, range_keep e5 e3 ho hng, CellsAt.only ho (fun q hq hk => by have := (HFL.out q hk).2; have hq : w22.heap.size ≤ q := hq; omega) _ _ e6, e7.only ho (fun k hk h => by have := (HFL.out k h).1; omega)⟩)
                · intro v w1 w2 h ho
                  have ho : Only (fun _ => False) w1 w2 := ho
                  exact (by obtain ⟨e1, e2, e3⟩ := h; exact ⟨e1.only ho (fun _ _ _ h => h), e2, e3.still ho⟩)
                · exact Stable.is _ _
                · intro x wx ox hN TT HTT
                  have ox : Only (fun q => (fun q => q = b) q ∨ (fun q => (Value.slice aL acc.length cL).ownBlock = some q) q) _ wx := ox
                  clear hN
                  unfold StepTo
                  simp only [putAll, Act.put, List.setIfInBounds_toArray, List.set_cons_succ, List.set_cons_zero]
                  go_wp2_with fail
                  exact ⟨rfl, _, rfl, HTT.out _ _ (rfl) (Only.refl _ _)⟩
                · intro x wx ox hN TT HTT
                  have ox : Only (fun q => (fun q => q = b) q ∨ (fun q => (Value.slice aL acc.length cL).ownBlock = some q) q) _ wx := ox
                  have r117 : x 0 = (.pointer (some ⟨Y, 4, none⟩)) := hN.1 rfl
                  clear hN
                  unfold StepTo
                  simp only [putAll, Act.put, List.setIfInBounds_toArray, List.set_cons_succ, List.set_cons_zero, r117]
                  clear r117
                  have hbx := (ox.block _ hY22 (fun h => by rcases h with h | h; omega; (have := (HFL.out _ h).1; omega))).trans HY22.out
                  obtain ⟨c0, c1, c2, c3, c4, -⟩ := box5 hbx
                  clear hbx
                  go_wp2_with fail
                  exact ⟨rfl, _, rfl, HTT.out _ _ (rfl) (Only.refl _ _)⟩
                · intro x wx ox hN TT HTT
                  have ox : Only (fun _ => False) _ wx := ox
                  clear hN
                  unfold StepTo
                  simp only [putAll, Act.put, List.setIfInBounds_toArray, List.set_cons_succ, List.set_cons_zero]
                  go_wp2_with fail
                  exact ⟨rfl, _, rfl, HTT.out _ _ (rfl) (Only.refl _ _)⟩
                · intro x wx ox hN TT HTT
                  have ox : Only (fun _ => False) _ wx := ox
                  clear hN
                  unfold StepTo
                  simp only [putAll, Act.put, List.setIfInBounds_toArray, List.set_cons_succ, List.set_cons_zero]
                  go_wp2_with fail
                  exact ⟨rfl, _, rfl, HTT.out _ _ (rfl) (Only.refl _ _)⟩
                · intro x wx ox hN TT HTT
                  have ox : Only (fun _ => False) _ wx := ox
                  have r119 : x 2 = (.pointer (some ⟨b, 0, none⟩)) := hN.1 rfl
                  have r120 : x 3 = (.bool fixed) := hN.2.1 rfl
                  clear hN
                  unfold StepTo
                  simp only [putAll, Act.put, List.setIfInBounds_toArray, List.set_cons_succ, List.set_cons_zero, r119, r120]
                  clear r119 r120
                  have hsl : w22.heap.size ≤ wx.heap.size := ox.size
                  have ht := J.out wx (((Only.refl _ w22).drew).trans ox)
                  have HT := Lib.hid ht; have HSL := Lib.hid hsl; clear ht hsl
                  go_wp2_with fail
                  refine HT.out.mono ?_
                  rintro e w6 ⟨v6, rfl, ⟨cs, rfl, hv6⟩, h6, o6⟩
                  obtain ⟨k', n', s', ak', lk', ck', av', lv', cv', rfl⟩ := valC_form2 hv6
                  have H6 := Lib.hid h6; have O6 := Lib.hid o6; have HV6 := Lib.hid hv6; clear h6 o6 hv6
                  go_wp2_with fail
                  exact ⟨rfl, _, rfl, HTT.out _ _ (⟨k', n', s', ak', lk', ck', av', lv', cv', rfl, CellsAt.weaken (fun q _ h => Nat.le_trans HSL.out h) _ _ HV6.out, H6.out⟩) (O6.out)⟩
                · intro x wx ox hN TT HTT
                  have ox : Only (fun q => (fun q => q = b) q ∨ (fun q => (Value.slice aL acc.length cL).ownBlock = some q) q) _ wx := ox
                  have r121 : (fun (v : Value) (w1 : World) => ∃ (k' : Nat) (n' : Int) (s' : List UInt8) (ak' : Option Addr) (lk' ck' : Nat) (av' : Option Addr) (lv' cv' : Nat), v = .agg #[.int .u8 k', .int .i64 n', .string ⟨s'.toArray⟩, .slice ak' lk' ck', .slice av' lv' cv'] ∧ CellsAt w1 (fun q => w22.heap.size ≤ q) (valC y) [.int .u8 k', .int .i64 n', .string ⟨s'.toArray⟩, .slice ak' lk' ck', .slice av' lv' cv'] ∧ RdP w1 b all rr (dp + 1)) (x 4) wx := hN.1 rfl
                  clear hN
                  unfold StepTo
                  simp only [putAll, Act.put, List.setIfInBounds_toArray, List.set_cons_succ, List.set_cons_zero]
                  obtain ⟨k', n', s', ak', lk', ck', av', lv', cv', e1, e2, e3⟩ := r121
                  simp only [e1]
                  have hn := heap_new wx (.cells #[.int .u8 k', .int .i64 n', .string ⟨s'.toArray⟩, .slice ak' lk' ck', .slice av' lv' cv'] 37)
                  have on := (Only.refl (fun _ => False) wx).alloc (.cells #[.int .u8 k', .int .i64 n', .string ⟨s'.toArray⟩, .slice ak' lk' ck', .slice av' lv' cv'] 37)
                  have hgl : w22.heap.size ≤ wx.heap.size := ox.size
                  have H3 := Lib.hid e3; have HNB := Lib.hid hn; have ON := Lib.hid on; have HGL2 := Lib.hid hgl; have HV2 := Lib.hid e2; clear e1 e2 e3 hn on hgl
                  go_wp2_with fail
                  exact ⟨rfl, _, rfl, HTT.out _ _ (⟨wx.heap.size, _, rfl, HGL2.out, by simp, rfl, range_of_block HNB.out, CellsAt.only ON.out (fun _ _ h => h) _ _ HV2.out, H3.out.still ON.out⟩) (ON.out)⟩
                · intro x wx ox hN TT HTT
                  have ox : Only (fun q => q = b) _ wx := ox
                  have r118 : x 1 = (.slice aL acc.length cL) := hN.1 rfl
                  have r122 : (fun (v : Value) (w1 : World) => ∃ (g : Nat) (cs : List Value), v = .slice (some ⟨g, 0, none⟩) 1 1 ∧ w22.heap.size ≤ g ∧ g < w1.heap.size ∧ cs.length = 5 ∧ w1.rangeAt g 0 cs ∧ CellsAt w1 (fun q => w22.heap.size ≤ q) (valC y) cs ∧ RdP w1 b all rr (dp + 1)) (x 5) wx := hN.2.1 rfl
                  have r121 : (fun (v : Value) (w1 : World) => ∃ (k' : Nat) (n' : Int) (s' : List UInt8) (ak' : Option Addr) (lk' ck' : Nat) (av' : Option Addr) (lv' cv' : Nat), v = .agg #[.int .u8 k', .int .i64 n', .string ⟨s'.toArray⟩, .slice ak' lk' ck', .slice av' lv' cv'] ∧ CellsAt w1 (fun q => w22.heap.size ≤ q) (valC y) [.int .u8 k', .int .i64 n', .string ⟨s'.toArray⟩, .slice ak' lk' ck', .slice av' lv' cv'] ∧ RdP w1 b all rr (dp + 1)) (x 4) wx := hN.2.2.1 rfl
                  clear hN
                  unfold StepTo
                  simp only [putAll, Act.put, List.setIfInBounds_toArray, List.set_cons_succ, List.set_cons_zero, r118]
                  clear r118
                  obtain ⟨g, cs, e1, e2, e3, e4, e5, e6, e7⟩ := r122
                  simp only [e1]
                  have htw := HW22.out.only (((Only.refl _ w22).drew).trans ox) (fun k h1 h2 e => by omega)
                  obtain ⟨aK3, cK3, eK3, -, -, gK3⟩ := HW22.out.left.form
                  obtain ⟨xs, p1, p2⟩ := htw.l
                  have hys : ∀ j u, cs[j]? = some u → wx.cell? ((⟨g, 0, none⟩ : Addr).add j) = some u := fun j u hu => by rw [addr_add]; exact e5 j u hu
                  have hone : ∀ u ∈ cs, u.oneCell' = true := CellsAt.one e6
                  have hsl : w22.heap.size ≤ wx.heap.size := ox.size
                  have hkb : (acc.length + 1) ≤ 1000001 := by have h2 := HFEW.out; omega
                  have HTW := Lib.hid htw; have HGK := Lib.hid gK3; have HP1 := Lib.hid p1; have HP2 := Lib.hid p2; have HYS := Lib.hid hys; have HSL := Lib.hid hsl; have HKB2 := Lib.hid hkb; have H6 := Lib.hid e7; have HV6 := Lib.hid e6; have HONE := Lib.hid hone; clear p1 p2 hys hsl hkb e7 e6 e5 e1 hone htw gK3 eK3
                  rw [List.length_map] at HP1
                  go_wp2_with ((refine wpList_append_own2 (o := ⟨some 123, _, _, _, _, _⟩) rfl (.tmp 118) (.tmp 122) 35 37 (by rfl) Tryz.underlying35 infoVal rfl (by decide) (Y + 1) (.slice aL acc.length cL) acc.length 1 1 xs cs ⟨g, 0, none⟩ (by rfl) (by rfl) HP1.out (by rw [e4]) HYS.out HONE.out (by have := HKB2.out; unfold maxLen; omega) (by have := HKB2.out; omega) (by have := HSL.out; omega) ?_; intro v' w9 q1 q2 q3))
                  have hv8 : CellsAt wx (fun q => (Y + 1 ≤ q ∧ (Value.slice aL acc.length cL).ownBlock ≠ some q ∧ q < wx.heap.size) ∧ (Value.slice aK' (acc.length + 1) cK').ownBlock ≠ some q) (valC y) cs := CellsAt.weaken (fun q hq h => by have h : w22.heap.size ≤ q := h; exact ⟨⟨by omega, fun hv => (by have := (HFL.out q hv).2; omega), hq⟩, fun hv => (by have := (HGK.out q hv).2; omega)⟩) _ _ HV6.out
                  have hp1 := HP1.out; have hp2 := HP2.out
                  have hrow := OwnTwo.append (r := valC y) HTW.out (by rw [List.length_map]; exact hp1) hp2 e4 hv8 (by rw [List.length_map]; exact q1) q2 q3
                  exact ⟨rfl, _, rfl, HTT.out _ _ (⟨hrow, fun q hq => (q3 q hq).imp id (fun h => Nat.le_trans HSL.out h), H6.out.only q2 (fun k hk h => by have := (HFL.out k h).1; omega)⟩) (q2)⟩
                · intro x wx ox hN TT HTT
                  have ox : Only (fun q => (fun q => q = b) q ∨ (fun q => (Value.slice aL acc.length cL).ownBlock = some q) q) _ wx := ox
                  have r117 : x 0 = (.pointer (some ⟨Y, 4, none⟩)) := hN.1 rfl
                  have r118 : x 1 = (.slice aL acc.length cL) := hN.2.1 rfl
                  have r119 : x 2 = (.pointer (some ⟨b, 0, none⟩)) := hN.2.2.1 rfl
                  have r120 : x 3 = (.bool fixed) := hN.2.2.2.1 rfl
                  have r121 : (fun (v : Value) (w1 : World) => ∃ (k' : Nat) (n' : Int) (s' : List UInt8) (ak' : Option Addr) (lk' ck' : Nat) (av' : Option Addr) (lv' cv' : Nat), v = .agg #[.int .u8 k', .int .i64 n', .string ⟨s'.toArray⟩, .slice ak' lk' ck', .slice av' lv' cv'] ∧ CellsAt w1 (fun q => w22.heap.size ≤ q) (valC y) [.int .u8 k', .int .i64 n', .string ⟨s'.toArray⟩, .slice ak' lk' ck', .slice av' lv' cv'] ∧ RdP w1 b all rr (dp + 1)) (x 4) wx := hN.2.2.2.2.1 rfl
                  have r122 : (fun (v : Value) (w1 : World) => ∃ (g : Nat) (cs : List Value), v = .slice (some ⟨g, 0, none⟩) 1 1 ∧ w22.heap.size ≤ g ∧ g < w1.heap.size ∧ cs.length = 5 ∧ w1.rangeAt g 0 cs ∧ CellsAt w1 (fun q => w22.heap.size ≤ q) (valC y) cs ∧ RdP w1 b all rr (dp + 1)) (x 5) wx := hN.2.2.2.2.2.1 rfl
                  have r123 : (fun (v : Value) (w1 : World) => OwnTwo w1 (Y + 1) 9 37 1 5 (.slice aK' (acc.length + 1) cK') v (acc.map (fun p => [strC p.1]) ++ [[strC s]]) (acc.map (fun p => valC p.2) ++ [valC y]) ∧ (∀ q, v.ownBlock = some q → (Value.slice aL acc.length cL).ownBlock = some q ∨ w22.heap.size ≤ q) ∧ RdP w1 b all rr (dp + 1)) (x 6) wx := hN.2.2.2.2.2.2.1 rfl
                  clear hN
                  unfold StepTo
                  simp only [putAll, Act.put, List.setIfInBounds_toArray, List.set_cons_succ, List.set_cons_zero, r117, r118, r119, r120]
                  clear r117 r118 r119 r120
                  go_wp2_with fail
                  exact ⟨rfl, _, rfl, HTT.out _ _ (rfl) (Only.refl _ _)⟩
                intro xc wxc oxc hN
                have oxc : Only (fun q => (fun q => q = b) q ∨ (fun q => (Value.slice aL acc.length cL).ownBlock = some q) q) _ wxc := oxc
                have r117 : xc 0 = (.pointer (some ⟨Y, 4, none⟩)) := hN.1
                have r118 : xc 1 = (.slice aL acc.length cL) := hN.2.1
                have r119 : xc 2 = (.pointer (some ⟨b, 0, none⟩)) := hN.2.2.1
                have r120 : xc 3 = (.bool fixed) := hN.2.2.2.1
                have r121 : (fun (v : Value) (w1 : World) => ∃ (k' : Nat) (n' : Int) (s' : List UInt8) (ak' : Option Addr) (lk' ck' : Nat) (av' : Option Addr) (lv' cv' : Nat), v = .agg #[.int .u8 k', .int .i64 n', .string ⟨s'.toArray⟩, .slice ak' lk' ck', .slice av' lv' cv'] ∧ CellsAt w1 (fun q => w22.heap.size ≤ q) (valC y) [.int .u8 k', .int .i64 n', .string ⟨s'.toArray⟩, .slice ak' lk' ck', .slice av' lv' cv'] ∧ RdP w1 b all rr (dp + 1)) (xc 4) wxc := hN.2.2.2.2.1
                have r122 : (fun (v : Value) (w1 : World) => ∃ (g : Nat) (cs : List Value), v = .slice (some ⟨g, 0, none⟩) 1 1 ∧ w22.heap.size ≤ g ∧ g < w1.heap.size ∧ cs.length = 5 ∧ w1.rangeAt g 0 cs ∧ CellsAt w1 (fun q => w22.heap.size ≤ q) (valC y) cs ∧ RdP w1 b all rr (dp + 1)) (xc 5) wxc := hN.2.2.2.2.2.1
                have r123 : (fun (v : Value) (w1 : World) => OwnTwo w1 (Y + 1) 9 37 1 5 (.slice aK' (acc.length + 1) cK') v (acc.map (fun p => [strC p.1]) ++ [[strC s]]) (acc.map (fun p => valC p.2) ++ [valC y]) ∧ (∀ q, v.ownBlock = some q → (Value.slice aL acc.length cL).ownBlock = some q ∨ w22.heap.size ≤ q) ∧ RdP w1 b all rr (dp + 1)) (xc 6) wxc := hN.2.2.2.2.2.2.1
                have r124 : xc 7 = (.pointer (some ⟨Y, 4, none⟩)) := hN.2.2.2.2.2.2.2.1
                clear hN
                simp only [putAll, Act.put, List.setIfInBounds_toArray, List.set_cons_succ, List.set_cons_zero, r117, r118, r119, r120, r124]
                clear r117 r118 r119 r120 r124
                obtain ⟨q1, q2, q5⟩ := r123
                obtain ⟨aL', cL', eL', gL1, gL2, gL3⟩ := q1.right.form
                rw [List.length_append, List.length_map, List.length_singleton] at eL' gL1
                rw [eL'] at q1 q2 gL3 ⊢
                have gL2n : cL' ≤ 9223372036854775807 := by unfold maxLen at gL2; omega
                have hYb := (oxc.block _ hY22 (fun h => by rcases h with h | h; omega; (have := (HFL.out _ h).1; omega))).trans HY22.out
                have hBb := (oxc.block _ (by omega : B < w22.heap.size) (fun h => by rcases h with h | h; omega; (have := (HFL.out _ h).1; omega))).trans HB22.out
                obtain ⟨c0, c1, c2, c3, c4, hfz⟩ := box5 hYb
                have hY6 := heap_set (o := 4) hYb (.slice aL' (acc.length + 1) cL')
                have hY6 : (wxc.setCell ⟨Y, 4, none⟩ (.slice aL' (acc.length + 1) cL')).heap[Y]? = some (.cells #[.int .u8 6, .int .i64 0, .string ⟨#[]⟩, .slice aK' (acc.length + 1) cK', .slice aL' (acc.length + 1) cL'] 37 (0, 0)) := by simpa using hY6
                have hB6 := heap_set_ne (a := ⟨Y, 4, none⟩) hBb (by show B ≠ Y; omega) (.slice aL' (acc.length + 1) cL')
                have o6 := (Only.refl (fun k => k = Y) wxc).setCell (p := ⟨Y, 4, none⟩) (.inl rfl) (.slice aL' (acc.length + 1) cL')
                have hrd6 := q5.only o6 (fun k hk e => by omega)
                have hob : Only (fun q => q = b ∨ q = Y ∨ (Value.slice aL acc.length cL).ownBlock = some q) w22 (wxc.setCell ⟨Y, 4, none⟩ (.slice aL' (acc.length + 1) cL')) := ((((Only.refl _ w22).drew).trans' oxc (fun q _ h => h.imp id .inr)).trans' o6 (fun q _ h => .inr (.inl h)))
                have hW6 := q1.only o6 (fun k h1 h2 e => by omega)
                have hO6 : Only (fun k => k = b) w (wxc.setCell ⟨Y, 4, none⟩ (.slice aL' (acc.length + 1) cL')) := HO22.out.trans' hob (fun q hq h => by rcases h with h | h | h; exact h; omega; (have := (HFL.out q h).1; omega))
                have hpos6 := hrd6.pos
                have hNEW : OInv w Y B b all (dp + 1) (valueP fixed d) r' (wxc.setCell ⟨Y, 4, none⟩ (.slice aL' (acc.length + 1) cL')) := ⟨acc ++ [(s, y)], rr, .slice aK' (acc.length + 1) cK', .slice aL' (acc.length + 1) cL', hY6, by rw [List.map_append, List.map_singleton, List.map_append, List.map_singleton]; exact hW6, hrd6, hB6, hO6, by have h1 := HFEW.out; have h2 := HLT.out; rw [List.length_append, List.length_singleton]; omega, n, by have h1 := HN.out; have h2 := HLT.out; omega, HNEW.out⟩
                have HNEW2 := Lib.hid hNEW; have HPOS6 := Lib.hid hpos6
                clear hNEW hpos6 hO6 hW6 hob hrd6 o6 hB6 hY6 q1 q2 q5 gL2 gL3 eL' hYb hBb oxc
                go_wp2_with fail
                go_roundw
                case rel => exact HNEW2
                case measure => have h1 := HPOS.out; have h2 := HPOS6.out; have h3 := HLT.out; omega 
      rw [if_neg (by decide)] at H9
      have he : valueB fixed (valueP fixed d) (t :: r') = .bad t.at_ 4 := by rw [valueB_cons, if_neg q2, if_neg q3, if_neg (by rw [q4.out]; decide), if_neg (by rw [q5.out]; decide), if_neg (by rw [q6.out]; decide), if_neg q7, if_neg (by rw [q8.out]; decide), if_neg (by rw [q9.out]; decide), if_neg (by rw [q10.out]; decide)]
      have HE := Lib.hid he; clear he
      go_wp2_with fail
      refine (stop_any b 4 w9).mono ?_
      rintro e w10 ⟨rfl, rfl⟩
      exact door_bad H9.out (by omega) (by omega) (fun w' h6 o6 => FB.out t.at_ 4 w' (t :: r') (dp + 1 - 1) HE.out h6 rfl (by omega) (by omega) (HO9.out.trans o6))
theorem value_any (fixed : Bool) : ∀ (d : Nat) (b : Nat) (all r : List Tok) (w : World), d ≤ 24 → RdP w b all r (24 - (d : Int)) →
    Calls Tryz.prog 75 #[.pointer (some ⟨b, 0, none⟩), .bool fixed] w (Ans w b all (24 - (d : Int)) (aggP w.heap.size valC) (valueP fixed d r))
  | 0, b, all, r, w, _, h => value_zero fixed b all r w h
  | d + 1, b, all, r, w, hd, h => value_succ fixed d (value_any fixed d) b all r w hd h
end Go.Proofs.YtgephneppgcnlaaGreatDoor
