/- The reference's disk (columbaryref01): Write, the good way. -/
import Derived.Test.YtlkglhgndfhjeaaRkE
namespace Go.Proofs.Ytlkglhgndfhjeaa
open Go Go.RowKit
set_option linter.unusedVariables false
set_option linter.unusedSimpArgs false
set_option maxRecDepth 100000
theorem RkAt.waitOwn {F : Nat → Prop} {w : World} {b : Nat} {st : Dk} (h : RkAt w F b st) {v : Value} (hc : w.cell? ⟨b, 1, none⟩ = some v) : ∀ k, v.ownBlock = some k → k ≠ b ∧ F k := by
  obtain ⟨h1, h2, h2a, h2b, vS, vL, h3, h4, h5, h6, h7, h8⟩ := h
  have e : vL = v := by simpa [World.cell?, h3] using hc
  subst e; exact h7
set_option maxHeartbeats 4000000 in
theorem rkWrite (F : Nat → Prop) (b : Nat) (st : Dk) (m : Nat) (j : Nat) (v : Value) (l : List UInt8) (w : World) (h : RkAt w F b st) (hj : j < st.sure.length) (ho : st.off = false) (hf : Fine st m) (hv : Bytes w v l) (h64 : l.length ≤ 64) (hvF : 0 < l.length → ∀ k, v.ownBlock = some k → ¬ F k) :
    Calls Try.prog 27 #[.pointer (some ⟨b, 0, none⟩), .int .i64 j, v] w fun e w' => e = .returned (.int .i64 (if (begun st).off then 12 else 0)) ∧ RkAt w' (fun k => F k ∨ w.heap.size ≤ k) b (wrote st j l) ∧ Only F w w' := by
  obtain ⟨E, hE⟩ : ∃ E, (if (begun st).off then (12 : Int) else 0) = E := ⟨_, rfl⟩
  rw [hE]
  have HE := Lib.hid hE; clear hE
  have hvv := hv
  obtain ⟨a, cap, rfl, h1, h2, h3⟩ := hv
  have hm := hf.small
  have hr := rkRead F b st j w h hj ho (by have := hf.wait; omega) (fun p hp => (hf.ix p hp).1)
  have hb1 : (l.length : Int) ≤ 9223372036854775807 := by omega
  have t1 : decide ((64 : Int) < (l.length : Int)) = false := by simp; omega
  have HR := Lib.hid hr; have H := Lib.hid h; have HF := Lib.hid hf; have HV := Lib.hid hvv; have HVF := Lib.hid hvF; clear hr h hf h3 hvv hvF
  go_enter Try.func27, Try.ntmps27
  go_wp2_with fail
  refine HR.out.mono ?_
  rintro e w1 ⟨rfl, rfl⟩
  obtain ⟨aS, aL, cS, cL, c0, c1, c2, c3, c4, fz, hS, hL⟩ := H.out.cells
  go_upto_region 6 with (fail)
  have hfull : ∀ w', Calls Try.prog 49 #[.string ⟨l.toArray⟩] w' fun e w2 => e = .returned (.string ⟨(pad64 l).toArray⟩) ∧ Only (fun _ => False) w' w2 := fun w' => rkFull l w' h64
  have HFULL := Lib.hid hfull; clear hfull
  have hlt := H.out.lt
  have hcell : ∀ w', Only (fun _ => False) w w' → w'.cell? ⟨b, 1, none⟩ = some (.slice aL st.wait.length cL) ∧ Bytes w' (.slice a l.length cap) l ∧ w'.ownsRow 0 88 2 (.slice aL st.wait.length cL) st.wait.length (st.wait.map wr2).flatten := fun w' o =>
    ⟨by rw [cell_only o (a := ⟨b, 1, none⟩) hlt (fun h => h)]; exact c1, HV.out.only o (fun _ _ _ h => h), own_only' hL o (fun _ _ h => h)⟩
  have HC := Lib.hid hcell; clear hcell hS
  have hLB : ∀ q, (Value.slice aL st.wait.length cL).ownBlock = some q → q < w.heap.size := fun q hq => ((own_form hL).choose_spec.choose_spec.2.2.2 q hq).2
  have HLB := Lib.hid hLB; clear hLB hL
  refine wp_region_stepsM 14 (by kernel_rfl) rfl (by kernel_rfl) [some 21, some 22, some 23, some 24, some 25, some 26, some 27, some 28, some 29, some 30, some 31, some 32, some 33, some 34] rfl rfl 11 15 (fun q => (Value.slice aL st.wait.length cL).ownBlock = some q) (fun _ => False) [12, 13, 14] (by kernel_rfl) [1, 2, 3, 4, 5, 6, 7, 8, 9, 10] (by kernel_rfl) (by decide) (by decide) (.inl (by decide)) [(fun v _ => v = (.pointer (some ⟨b, 0, none⟩))), (fun v _ => v = (.pointer (some ⟨b, 0, none⟩))), (fun v _ => v = (.pointer (some ⟨b, 0, none⟩))), (fun v _ => v = (.pointer (some ⟨b, 1, none⟩))), (fun v _ => v = (.slice aL st.wait.length cL)), (fun v _ => v = (.int .i64 (j : Int))), (fun v _ => v = (.slice a l.length cap)), (fun v _ => v = (.string ⟨l.toArray⟩)), (fun v _ => v = (.string ⟨(pad64 l).toArray⟩)), (fun v _ => v = (.agg #[.int .i64 (j : Int), .string ⟨(pad64 l).toArray⟩])), (fun v w1 => ∃ g, v = .slice (some ⟨g, 0, none⟩) 1 1 ∧ w.heap.size ≤ g ∧ w1.heap[g]? = some (.cells #[.int .i64 (j : Int), .string ⟨(pad64 l).toArray⟩] 88 (0, 0))), (fun v w1 => w1.ownsRow 0 88 2 v (st.wait.length + 1) ((st.wait.map wr2).flatten ++ wr2 ((j : Int), pad64 l)) ∧ ∀ k, v.ownBlock = some k → (Value.slice aL st.wait.length cL).ownBlock = some k ∨ w.heap.size ≤ k), (fun v _ => v = (.pointer (some ⟨b, 0, none⟩))), (fun v _ => v = (.pointer (some ⟨b, 1, none⟩)))] rfl ⟨?_, ?_, ?_, ?_, ?_, ?_, ?_, ?_, ?_, ?_, ?_, ?_, ?_, ?_, trivial⟩ _ rfl ⟨?_, ?_, ?_, ?_, ?_, ?_, ?_, ?_, ?_, ?_, ?_, ?_, ?_, ?_, trivial⟩ ?_
  · exact Stable.is _ _
  · exact Stable.is _ _
  · exact Stable.is _ _
  · exact Stable.is _ _
  · exact Stable.is _ _
  · exact Stable.is _ _
  · exact Stable.is _ _
  · exact Stable.is _ _
  · exact Stable.is _ _
  · exact Stable.is _ _
  · intro v w1 w2 h ho
    have ho : Only (fun q => (fun q => (Value.slice aL st.wait.length cL).ownBlock = some q) q ∨ (fun _ => False) q) w1 w2 := ho
    exact (by obtain ⟨g, e, q1, q2⟩ := h; exact ⟨g, e, q1, by rw [ho.block _ (Array.getElem?_eq_some_iff.1 q2).1 (fun h => by rcases h with h | h; (have := HLB.out g h; omega); exact h)]; exact q2⟩)
  · intro v w1 w2 h ho
    have ho : Only (fun _ => False) w1 w2 := ho
    exact (by exact ⟨own_only' h.1 ho (fun _ _ h => h), h.2⟩)
  · exact Stable.is _ _
  · exact Stable.is _ _
  · intro x wx ox hN TT HTT
    have ox : Only (fun q => (fun q => (Value.slice aL st.wait.length cL).ownBlock = some q) q ∨ (fun _ => False) q) _ wx := ox
    clear hN
    unfold StepTo
    simp only [putAll, Act.put, List.setIfInBounds_toArray, List.set_cons_succ, List.set_cons_zero]
    go_wp2_with fail
    exact ⟨rfl, _, rfl, HTT.out _ _ (rfl) (Only.refl _ _)⟩
  · intro x wx ox hN TT HTT
    have ox : Only (fun _ => False) _ wx := ox
    clear hN
    unfold StepTo
    simp only [putAll, Act.put, List.setIfInBounds_toArray, List.set_cons_succ, List.set_cons_zero]
    go_wp2_with fail
    exact ⟨rfl, _, rfl, HTT.out _ _ (rfl) (Only.refl _ _)⟩
  · intro x wx ox hN TT HTT
    have ox : Only (fun _ => False) _ wx := ox
    have r22 : x 1 = (.pointer (some ⟨b, 0, none⟩)) := hN.1 rfl
    clear hN
    unfold StepTo
    simp only [putAll, Act.put, List.setIfInBounds_toArray, List.set_cons_succ, List.set_cons_zero, r22]
    clear r22
    go_wp2_with fail
    exact ⟨rfl, _, rfl, HTT.out _ _ (rfl) (Only.refl _ _)⟩
  · intro x wx ox hN TT HTT
    have ox : Only (fun _ => False) _ wx := ox
    have r23 : x 2 = (.pointer (some ⟨b, 0, none⟩)) := hN.1 rfl
    clear hN
    unfold StepTo
    simp only [putAll, Act.put, List.setIfInBounds_toArray, List.set_cons_succ, List.set_cons_zero, r23]
    clear r23
    go_wp2_with fail
    exact ⟨rfl, _, rfl, HTT.out _ _ (rfl) (Only.refl _ _)⟩
  · intro x wx ox hN TT HTT
    have ox : Only (fun _ => False) _ wx := ox
    have r24 : x 3 = (.pointer (some ⟨b, 1, none⟩)) := hN.1 rfl
    clear hN
    unfold StepTo
    simp only [putAll, Act.put, List.setIfInBounds_toArray, List.set_cons_succ, List.set_cons_zero, r24]
    clear r24
    obtain ⟨g1, g2, g3⟩ := HC.out wx (((Only.refl _ w).drew).trans ox)
    go_wp2_with fail
    exact ⟨rfl, _, rfl, HTT.out _ _ (rfl) (Only.refl _ _)⟩
  · intro x wx ox hN TT HTT
    have ox : Only (fun _ => False) _ wx := ox
    clear hN
    unfold StepTo
    simp only [putAll, Act.put, List.setIfInBounds_toArray, List.set_cons_succ, List.set_cons_zero]
    go_wp2_with fail
    exact ⟨rfl, _, rfl, HTT.out _ _ (rfl) (Only.refl _ _)⟩
  · intro x wx ox hN TT HTT
    have ox : Only (fun _ => False) _ wx := ox
    clear hN
    unfold StepTo
    simp only [putAll, Act.put, List.setIfInBounds_toArray, List.set_cons_succ, List.set_cons_zero]
    go_wp2_with fail
    exact ⟨rfl, _, rfl, HTT.out _ _ (rfl) (Only.refl _ _)⟩
  · intro x wx ox hN TT HTT
    have ox : Only (fun _ => False) _ wx := ox
    have r27 : x 6 = (.slice a l.length cap) := hN.1 rfl
    clear hN
    unfold StepTo
    simp only [putAll, Act.put, List.setIfInBounds_toArray, List.set_cons_succ, List.set_cons_zero, r27]
    clear r27
    obtain ⟨g1, g2, g3⟩ := HC.out wx (((Only.refl _ w).drew).trans ox)
    have hcv := g2.conv
    go_wp2_with fail
    exact ⟨rfl, _, rfl, HTT.out _ _ (rfl) (Only.refl _ _)⟩
  · intro x wx ox hN TT HTT
    have ox : Only (fun _ => False) _ wx := ox
    have r28 : x 7 = (.string ⟨l.toArray⟩) := hN.1 rfl
    clear hN
    unfold StepTo
    simp only [putAll, Act.put, List.setIfInBounds_toArray, List.set_cons_succ, List.set_cons_zero, r28]
    clear r28
    have hc := HFULL.out wx
    have HCC := Lib.hid hc; clear hc
    go_wp2_with fail
    refine HCC.out.mono ?_
    rintro e w6 ⟨rfl, o6⟩
    go_wp2_with fail
    exact ⟨rfl, _, rfl, HTT.out _ _ (rfl) (o6)⟩
  · intro x wx ox hN TT HTT
    have ox : Only (fun _ => False) _ wx := ox
    have r26 : x 5 = (.int .i64 (j : Int)) := hN.1 rfl
    have r29 : x 8 = (.string ⟨(pad64 l).toArray⟩) := hN.2.1 rfl
    clear hN
    unfold StepTo
    simp only [putAll, Act.put, List.setIfInBounds_toArray, List.set_cons_succ, List.set_cons_zero, r26, r29]
    clear r26 r29
    go_wp2_with fail
    exact ⟨rfl, _, rfl, HTT.out _ _ (rfl) (Only.refl _ _)⟩
  · intro x wx ox hN TT HTT
    have ox : Only (fun _ => False) _ wx := ox
    have r30 : x 9 = (.agg #[.int .i64 (j : Int), .string ⟨(pad64 l).toArray⟩]) := hN.1 rfl
    clear hN
    unfold StepTo
    simp only [putAll, Act.put, List.setIfInBounds_toArray, List.set_cons_succ, List.set_cons_zero, r30]
    clear r30
    have hn := heap_new wx (.cells #[.int .i64 (j : Int), .string ⟨(pad64 l).toArray⟩] 88)
    have on := (Only.refl (fun _ => False) wx).alloc (.cells #[.int .i64 (j : Int), .string ⟨(pad64 l).toArray⟩] 88)
    have hsz : w.heap.size ≤ wx.heap.size := ox.size
    have HN := Lib.hid hn; have ON := Lib.hid on; have HSZ := Lib.hid hsz; clear hn on hsz
    go_wp2_with fail
    exact ⟨rfl, _, rfl, HTT.out _ _ (⟨wx.heap.size, rfl, HSZ.out, HN.out⟩) (ON.out)⟩
  · intro x wx ox hN TT HTT
    have ox : Only (fun _ => False) _ wx := ox
    have r25 : x 4 = (.slice aL st.wait.length cL) := hN.1 rfl
    have r31 : (fun (v : Value) (w1 : World) => ∃ g, v = .slice (some ⟨g, 0, none⟩) 1 1 ∧ w.heap.size ≤ g ∧ w1.heap[g]? = some (.cells #[.int .i64 (j : Int), .string ⟨(pad64 l).toArray⟩] 88 (0, 0))) (x 10) wx := hN.2.1 rfl
    have r29 : x 8 = (.string ⟨(pad64 l).toArray⟩) := hN.2.2.1 rfl
    clear hN
    unfold StepTo
    simp only [putAll, Act.put, List.setIfInBounds_toArray, List.set_cons_succ, List.set_cons_zero, r25, r29]
    clear r25 r29
    obtain ⟨g, e1, e2, e3⟩ := r31
    simp only [e1]
    have hys : ∀ j' u, (wr2 ((j : Int), pad64 l))[j']? = some u → wx.cell? ((⟨g, 0, none⟩ : Addr).add j') = some u := fun j' u hu => by rw [addr_add]; exact range_of_block (cs := wr2 ((j : Int), pad64 l)) e3 j' u hu
    have hox := (HC.out wx (((Only.refl _ w).drew).trans ox)).2.2
    have hsz : w.heap.size ≤ wx.heap.size := ox.size
    have hwl : st.wait.length ≤ 1000000000 := by have := HF.out.wait; omega
    have HOX := Lib.hid hox; have HYS := Lib.hid hys; have HSZ := Lib.hid hsz; have HWL := Lib.hid hwl; clear hox hys hsz hwl e1 e2 e3
    go_wp2_with ((refine wpList_append_own2 (o := ⟨some 32, _, _, _, _, _⟩) rfl (.tmp 25) (.tmp 31) 48 88 (by rfl) Try.underlying48 infoWr rfl (by decide) 0 (.slice aL st.wait.length cL) st.wait.length 1 1 (st.wait.map wr2).flatten (wr2 ((j : Int), pad64 l)) ⟨g, 0, none⟩ (by rfl) (by rfl) HOX.out (by rfl) HYS.out (by intro u hu; simp [wr2, strR] at hu; rcases hu with rfl | rfl <;> rfl) (by have := HWL.out; unfold maxLen; omega) (by have := HWL.out; omega) (Nat.zero_le _) ?_; intro v' w9 q1 q2 q3))
    exact ⟨rfl, _, rfl, HTT.out _ _ (⟨q1, fun k hk => (q3 k hk).imp _root_.id (fun h => Nat.le_trans HSZ.out h)⟩) (q2)⟩
  · intro x wx ox hN TT HTT
    have ox : Only (fun q => (fun q => (Value.slice aL st.wait.length cL).ownBlock = some q) q ∨ (fun _ => False) q) _ wx := ox
    have r21 : x 0 = (.pointer (some ⟨b, 0, none⟩)) := hN.1 rfl
    have r22 : x 1 = (.pointer (some ⟨b, 0, none⟩)) := hN.2.2.1 rfl
    have r23 : x 2 = (.pointer (some ⟨b, 0, none⟩)) := hN.2.2.2.1 rfl
    have r24 : x 3 = (.pointer (some ⟨b, 1, none⟩)) := hN.2.2.2.2.1 rfl
    have r25 : x 4 = (.slice aL st.wait.length cL) := hN.2.2.2.2.2.1 rfl
    have r26 : x 5 = (.int .i64 (j : Int)) := hN.2.2.2.2.2.2.1 rfl
    have r27 : x 6 = (.slice a l.length cap) := hN.2.2.2.2.2.2.2.1 rfl
    have r28 : x 7 = (.string ⟨l.toArray⟩) := hN.2.2.2.2.2.2.2.2.1 rfl
    have r29 : x 8 = (.string ⟨(pad64 l).toArray⟩) := hN.2.2.2.2.2.2.2.2.2.1 rfl
    have r30 : x 9 = (.agg #[.int .i64 (j : Int), .string ⟨(pad64 l).toArray⟩]) := hN.2.2.2.2.2.2.2.2.2.2.1 rfl
    have r31 : (fun (v : Value) (w1 : World) => ∃ g, v = .slice (some ⟨g, 0, none⟩) 1 1 ∧ w.heap.size ≤ g ∧ w1.heap[g]? = some (.cells #[.int .i64 (j : Int), .string ⟨(pad64 l).toArray⟩] 88 (0, 0))) (x 10) wx := hN.2.2.2.2.2.2.2.2.2.2.2.1 rfl
    have r32 : (fun (v : Value) (w1 : World) => w1.ownsRow 0 88 2 v (st.wait.length + 1) ((st.wait.map wr2).flatten ++ wr2 ((j : Int), pad64 l)) ∧ ∀ k, v.ownBlock = some k → (Value.slice aL st.wait.length cL).ownBlock = some k ∨ w.heap.size ≤ k) (x 11) wx := hN.2.2.2.2.2.2.2.2.2.2.2.2.1 rfl
    clear hN
    unfold StepTo
    simp only [putAll, Act.put, List.setIfInBounds_toArray, List.set_cons_succ, List.set_cons_zero, r21, r22, r23, r24, r25, r26, r27, r28, r29, r30]
    clear r21 r22 r23 r24 r25 r26 r27 r28 r29 r30
    go_wp2_with fail
    exact ⟨rfl, _, rfl, HTT.out _ _ (rfl) (Only.refl _ _)⟩
  · intro x wx ox hN TT HTT
    have ox : Only (fun q => (fun q => (Value.slice aL st.wait.length cL).ownBlock = some q) q ∨ (fun _ => False) q) _ wx := ox
    have r33 : x 12 = (.pointer (some ⟨b, 0, none⟩)) := hN.1 rfl
    have r21 : x 0 = (.pointer (some ⟨b, 0, none⟩)) := hN.2.1 rfl
    have r22 : x 1 = (.pointer (some ⟨b, 0, none⟩)) := hN.2.2.1 rfl
    have r23 : x 2 = (.pointer (some ⟨b, 0, none⟩)) := hN.2.2.2.1 rfl
    have r24 : x 3 = (.pointer (some ⟨b, 1, none⟩)) := hN.2.2.2.2.1 rfl
    have r25 : x 4 = (.slice aL st.wait.length cL) := hN.2.2.2.2.2.1 rfl
    have r26 : x 5 = (.int .i64 (j : Int)) := hN.2.2.2.2.2.2.1 rfl
    have r27 : x 6 = (.slice a l.length cap) := hN.2.2.2.2.2.2.2.1 rfl
    have r28 : x 7 = (.string ⟨l.toArray⟩) := hN.2.2.2.2.2.2.2.2.1 rfl
    have r29 : x 8 = (.string ⟨(pad64 l).toArray⟩) := hN.2.2.2.2.2.2.2.2.2.1 rfl
    have r30 : x 9 = (.agg #[.int .i64 (j : Int), .string ⟨(pad64 l).toArray⟩]) := hN.2.2.2.2.2.2.2.2.2.2.1 rfl
    have r31 : (fun (v : Value) (w1 : World) => ∃ g, v = .slice (some ⟨g, 0, none⟩) 1 1 ∧ w.heap.size ≤ g ∧ w1.heap[g]? = some (.cells #[.int .i64 (j : Int), .string ⟨(pad64 l).toArray⟩] 88 (0, 0))) (x 10) wx := hN.2.2.2.2.2.2.2.2.2.2.2.1 rfl
    have r32 : (fun (v : Value) (w1 : World) => w1.ownsRow 0 88 2 v (st.wait.length + 1) ((st.wait.map wr2).flatten ++ wr2 ((j : Int), pad64 l)) ∧ ∀ k, v.ownBlock = some k → (Value.slice aL st.wait.length cL).ownBlock = some k ∨ w.heap.size ≤ k) (x 11) wx := hN.2.2.2.2.2.2.2.2.2.2.2.2.1 rfl
    clear hN
    unfold StepTo
    simp only [putAll, Act.put, List.setIfInBounds_toArray, List.set_cons_succ, List.set_cons_zero, r33, r21, r22, r23, r24, r25, r26, r27, r28, r29, r30]
    clear r33 r21 r22 r23 r24 r25 r26 r27 r28 r29 r30
    go_wp2_with fail
    exact ⟨rfl, _, rfl, HTT.out _ _ (rfl) (Only.refl _ _)⟩
  intro xa wxa oxa hN
  have oxa : Only (fun q => (fun q => (Value.slice aL st.wait.length cL).ownBlock = some q) q ∨ (fun _ => False) q) _ wxa := oxa
  have r21 : xa 0 = (.pointer (some ⟨b, 0, none⟩)) := hN.1
  have r22 : xa 1 = (.pointer (some ⟨b, 0, none⟩)) := hN.2.1
  have r23 : xa 2 = (.pointer (some ⟨b, 0, none⟩)) := hN.2.2.1
  have r24 : xa 3 = (.pointer (some ⟨b, 1, none⟩)) := hN.2.2.2.1
  have r25 : xa 4 = (.slice aL st.wait.length cL) := hN.2.2.2.2.1
  have r26 : xa 5 = (.int .i64 (j : Int)) := hN.2.2.2.2.2.1
  have r27 : xa 6 = (.slice a l.length cap) := hN.2.2.2.2.2.2.1
  have r28 : xa 7 = (.string ⟨l.toArray⟩) := hN.2.2.2.2.2.2.2.1
  have r29 : xa 8 = (.string ⟨(pad64 l).toArray⟩) := hN.2.2.2.2.2.2.2.2.1
  have r30 : xa 9 = (.agg #[.int .i64 (j : Int), .string ⟨(pad64 l).toArray⟩]) := hN.2.2.2.2.2.2.2.2.2.1
  have r31 : (fun (v : Value) (w1 : World) => ∃ g, v = .slice (some ⟨g, 0, none⟩) 1 1 ∧ w.heap.size ≤ g ∧ w1.heap[g]? = some (.cells #[.int .i64 (j : Int), .string ⟨(pad64 l).toArray⟩] 88 (0, 0))) (xa 10) wxa := hN.2.2.2.2.2.2.2.2.2.2.1
  have r32 : (fun (v : Value) (w1 : World) => w1.ownsRow 0 88 2 v (st.wait.length + 1) ((st.wait.map wr2).flatten ++ wr2 ((j : Int), pad64 l)) ∧ ∀ k, v.ownBlock = some k → (Value.slice aL st.wait.length cL).ownBlock = some k ∨ w.heap.size ≤ k) (xa 11) wxa := hN.2.2.2.2.2.2.2.2.2.2.2.1
  have r33 : xa 12 = (.pointer (some ⟨b, 0, none⟩)) := hN.2.2.2.2.2.2.2.2.2.2.2.2.1
  have r34 : xa 13 = (.pointer (some ⟨b, 1, none⟩)) := hN.2.2.2.2.2.2.2.2.2.2.2.2.2.1
  clear hN
  simp only [putAll, Act.put, List.setIfInBounds_toArray, List.set_cons_succ, List.set_cons_zero, r21, r22, r23, r24, r25, r26, r27, r28, r29, r30, r33, r34]
  clear r21 r22 r23 r24 r25 r26 r27 r28 r29 r30 r33 r34
  obtain ⟨q1, q2⟩ := r32
  obtain ⟨aL', cL', eL', gL1', gL2', gL3'⟩ := own_form q1
  rw [eL'] at q1 q2 ⊢
  have oa : Only (fun q => (Value.slice aL st.wait.length cL).ownBlock = some q) w wxa := ((Only.refl _ w).drew).trans (oxa.mono (fun q _ h => h.resolve_right (fun h => h)))
  have hset := RkAt.setWait (G := fun k => F k ∨ w.heap.size ≤ k) (p := ((j : Int), pad64 l)) H.out c1 oa (pad64_len h64) q1 (fun k h => .inl h) q2 (fun k h => .inr h)
  have hwne : ∀ q, (Value.slice aL st.wait.length cL).ownBlock = some q → q ≠ b ∧ F q := H.out.waitOwn c1
  have oF : Only F w wxa := oa.mono (fun q _ h => (hwne q h).2)
  have y1 : wxa.cell? ⟨b, 1, none⟩ = some (.slice aL st.wait.length cL) := by rw [cell_only oa (a := ⟨b, 1, none⟩) hlt (fun h => (hwne b h).1 rfl)]; exact c1
  have yz : ∀ o, wxa.frozen? ⟨b, o, none⟩ = false := fun o => by rw [frozen_only oa (a := ⟨b, o, none⟩) hlt (fun h => (hwne b h).1 rfl)]; exact fz o
  have oS := oF.setCell (p := ⟨b, 1, none⟩) (.inl H.out.1) (.slice aL' (st.wait.length + 1) cL')
  have hbg := rkBegin _ b _ _ hset ⟨HF.out.ops.1, by have := HF.out.ops.2; show st.ops ≤ _; omega⟩ HF.out.armed
  rw [← wrote_eq] at hbg
  have hoff : (wrote st (j : Int) l).off = (begun st).off := rfl
  rw [hoff] at hbg
  clear hoff
  rw [HE.out] at hbg
  have HBG := Lib.hid hbg; have OS := Lib.hid oS
  clear hbg oS hset oF oa hwne q1 q2 gL3' eL'
  go_wp2_with fail
  refine HBG.out.mono ?_
  rintro e w5 ⟨rfl, h5, o5⟩
  have H5 := Lib.hid h5; have O5 := Lib.hid (OS.out.trans' o5 (fun q _ e => by subst e; exact H.out.1)); clear h5 o5
  go_wp2_with fail
  go_ret
  exact ⟨rfl, H5.out, O5.out⟩
end Go.Proofs.Ytlkglhgndfhjeaa
