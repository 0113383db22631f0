/- parse.Document's deferred calls. -/
import Derived.Test.YtgephneppgcnlaaDoorBox
import Derived.Test.YtgephneppgcnlaaDoorEnc
import Derived.Test.YtgephneppgcnlaaDoorRg2
import Derived.Recover
namespace Go.Proofs.YtgephneppgcnlaaDoor
open Go Go.RowKit
set_option linter.unusedVariables false
set_option linter.unusedSimpArgs false

theorem box1 {w : World} {b : Nat} {x0 : Value} {T : TypeId} (h : w.heap[b]? = some (.cells #[x0] T (0, 0))) : w.cell? ⟨b, 0, none⟩ = some x0 ∧ ∀ o, w.frozen? ⟨b, o, none⟩ = false := by
  refine ⟨?_, fun o => ?_⟩ <;> simp [World.cell?, World.frozen?, h]
theorem assert_fault (v : Value) (w : World) : (Instr.typeAssert (.iface 105 v) 20 105 true).run Tryd.prog w = .ok (.tuple #[v, .bool true]) w := by kernel_rfl
set_option maxRecDepth 100000 in
set_option maxHeartbeats 4000000 in
/-- A panic is caught: its error is laid. -/
theorem caught_bad (X c : Nat) (x : Value) (w : World) (hx : w.heap[X]? = some (.cells #[x] 27 (0, 0))) :
    CallsD Tryd.prog 25 #[.pointer (some ⟨X, 0, none⟩)] (.panicking (faultV c)) w fun e u' w' =>
      e = .returned (.tuple #[]) ∧ settle u' = .returning ∧ w'.heap[X]? = some (.cells #[.int .i64 (c : Int)] 27 (0, 0)) ∧ Only (fun k => k = X) w w' := by
  obtain ⟨c0, fz⟩ := box1 hx
  have hX := (Array.getElem?_eq_some_iff.1 hx).1
  refine callsD_of_wpS Tryd.func25 rfl fun c₀ cs hu => ?_
  apply wpS_seq
  apply wpS_region
  simp [wpOpsS, go_sem, recoverD, hu, faultV, Tryd.ntmps25, Exit.thenS]
  apply wpS_seq
  apply wpS_region
  simp [wpOpsS, go_sem, Exit.thenS]
  refine wpS_cond (t := true) (by simp [Act.eval]) ?_
  simp only [if_true]
  refine wpS_of_wp ?_
  obtain ⟨PP, hPP⟩ : ∃ PP : World → Prop, ∀ w', PP w' ↔ (w'.heap[X]? = some (.cells #[.int .i64 (c : Int)] 27 (0, 0)) ∧ Only (fun k => k = X) w w') := ⟨_, fun _ => Iff.rfl⟩
  refine Code.wp_mono (Q := fun e a' w' => e = Exit.normal ∧ a'.defers = [] ∧ PP w') ?_ ?_
  · rintro e a' w' ⟨rfl, hd, hh⟩
    obtain ⟨h1, h2⟩ := (hPP _).1 hh
    refine ⟨hd, _, rfl, .tuple #[], by simp [results, Tryd.results25, go_sem], rfl, rfl, h1, h2⟩
  · have hw1 := heap_set (o := 0) hx (.int .i64 (c : Int))
    have hw2 : ((w.setCell ⟨X, 0, none⟩ (.int .i64 (c : Int))).alloc (.cells #[.int .i64 (c : Int)] 105)).heap[X]? = some (.cells #[.int .i64 (c : Int)] 27 (0, 0)) := heap_old (by simpa using hw1) _
    have ho : Only (fun k => k = X) w ((w.setCell ⟨X, 0, none⟩ (.int .i64 (c : Int))).alloc (.cells #[.int .i64 (c : Int)] 105)) := ((Only.refl (fun k => k = X) w).setCell (p := ⟨X, 0, none⟩) (.inl rfl) _).alloc _
    have HH := Lib.hid ((hPP _).2 ⟨hw2, ho⟩)
    have has := assert_fault
    clear hu hx hw1 hw2 ho hPP
    show Code.wp _ _ _ { tmps := #[.pointer (some ⟨X, 0, none⟩), undef, (.iface 105 (.agg #[.int .i64 (c : Int)])), undef, undef, (.iface 105 (.agg #[.int .i64 (c : Int)])), (.iface 105 (.agg #[.int .i64 (c : Int)])), .bool true, undef, undef, undef, undef, undef, undef, undef, undef, undef, undef, undef, undef], defers := [] } _
    go_wp2_with fail
    first
      | exact HH.out
      | exact ⟨rfl, rfl, HH.out⟩
set_option maxRecDepth 100000 in
set_option maxHeartbeats 4000000 in
/-- There is no panic: nothing is done. -/
theorem caught_ok (X : Nat) (w : World) :
    CallsD Tryd.prog 25 #[.pointer (some ⟨X, 0, none⟩)] .returning w fun e u' w' => e = .returned (.tuple #[]) ∧ u' = .returning ∧ w' = w := by
  refine callsD_of_wpS Tryd.func25 rfl fun c₀ cs hu => ?_
  apply wpS_seq
  apply wpS_region
  simp [wpOpsS, go_sem, recoverD, hu, Tryd.ntmps25, Exit.thenS]
  apply wpS_seq
  apply wpS_region
  simp [wpOpsS, go_sem, Exit.thenS]
  refine wpS_cond (t := false) (by simp [Act.eval]) ?_
  simp only [Bool.false_eq_true, if_false]
  refine wpS_of_wp ?_
  refine Code.wp_mono (Q := fun e a' w' => e = Exit.normal ∧ a'.defers = [] ∧ w' = w) ?_ ?_
  · rintro e a' w' ⟨rfl, hd, rfl⟩
    refine ⟨hd, .returning, ?_, .tuple #[], by simp [results, Tryd.results25, go_sem], rfl, rfl, rfl⟩
    cases c₀; simp_all
  · exact wp_skip ⟨rfl, rfl, rfl⟩
set_option maxRecDepth 100000 in
set_option maxHeartbeats 4000000 in
/-- Behind all: no error. -/
theorem doc1_ok (E Rb D A : Nat) (u : FrameMode) (w : World) (hE : w.heap[E]? = some (.cells #[.int .i64 0] 27 (0, 0))) :
    CallsD Tryd.prog 24 #[.pointer (some ⟨E, 0, none⟩), .pointer (some ⟨Rb, 0, none⟩), .pointer (some ⟨D, 0, none⟩), .pointer (some ⟨A, 0, none⟩)] u w fun e u' w' => u' = u ∧ e = .returned (.tuple #[]) ∧ w' = w := by
  obtain ⟨c0, fz⟩ := box1 hE
  clear hE
  go_enter_d Tryd.func24, Tryd.ntmps24
  go_wp2_with fail
  go_end0
  first
    | exact ⟨rfl, rfl, rfl⟩
    | exact ⟨rfl, rfl⟩
    | rfl
set_option maxRecDepth 100000 in
set_option maxHeartbeats 4000000 in
/-- Behind all: an error; nothing is told but its place. -/
theorem doc1_bad (E Rb D A b : Nat) (c : Nat) (x : Int) (d0 d1 : Value) (all r : List Tok) (dp : Int) (u : FrameMode) (w : World) (hE : w.heap[E]? = some (.cells #[.int .i64 (c : Int)] 27 (0, 0))) (hc : c ≠ 0)
    (hR : w.heap[Rb]? = some (.cells #[.pointer (some ⟨b, 0, none⟩)] 76 (0, 0))) (hD : w.heap[D]? = some (.cells #[d0, d1] 26 (0, 0))) (hA : w.heap[A]? = some (.cells #[.int .i64 x] 3 (0, 0))) (h : RdP w b all r dp) (hDA : D ≠ A) (hbD : b ≠ D) (hRD : Rb ≠ D) (hgD : ∀ g off n c', w.cell? ⟨b, 0, none⟩ = some (.slice (some ⟨g, off, none⟩) n c') → g ≠ D) :
    CallsD Tryd.prog 24 #[.pointer (some ⟨E, 0, none⟩), .pointer (some ⟨Rb, 0, none⟩), .pointer (some ⟨D, 0, none⟩), .pointer (some ⟨A, 0, none⟩)] u w fun e u' w' => u' = u ∧ e = .returned (.tuple #[]) ∧
      w'.heap[D]? = some (.cells #[.slice none 0 0, .slice none 0 0] 26 (0, 0)) ∧ w'.heap[A]? = some (.cells #[.int .i64 (atT r : Int)] 3 (0, 0)) ∧ Only (fun k => k = D ∨ k = A) w w' := by
  obtain ⟨e0, efz⟩ := box1 hE
  obtain ⟨g, off, cc, N, t, r', rfl, i, c0, c1, c2, fz, hi, hcp, hN, hcm, a1, a2, a3, a4⟩ := h.next
  have hgd := hgD _ _ _ _ c0
  have hne : ((c : Int) != 0) = true := by simp; omega
  have HD := Lib.hid hD; have HA := Lib.hid hA; have HR := Lib.hid hR
  have hz1 := heap_set (o := 0) hD (.slice none 0 0)
  have hcells : ∀ wx, Only (fun _ => False) w wx → wx.cell? ⟨b, 0, none⟩ = some (.slice (some ⟨g, off, none⟩) N cc) ∧ wx.cell? ⟨b, 1, none⟩ = some (.int .i64 (i : Int)) ∧ wx.cell? ⟨g, off + i * 4 + 3, none⟩ = some (.int .i64 (t.at_ : Int)) ∧ wx.cell? ⟨Rb, 0, none⟩ = some (.pointer (some ⟨b, 0, none⟩)) := fun wx o =>
    ⟨(cell_keep o (cell_lt c0) (fun h => h)).trans c0, (cell_keep o (cell_lt c1) (fun h => h)).trans c1, (cell_keep o (cell_lt a4) (fun h => h)).trans a4, (cell_keep o (cell_lt (box1 hR).1) (fun h => h)).trans (box1 hR).1⟩
  have HC := Lib.hid hcells
  clear hcells hD hA hR h hgD hE c0 c1 c2 fz a1 a2 a3 a4 hz1
  have hiN : (i : Int) < (N : Int) := by omega
  go_enter_d Tryd.func24, Tryd.ntmps24
  go_upto_region 1 with (fail)
  clear e0 efz hne
  refine wp_region_stepsM 13 (by kernel_rfl) rfl (by kernel_rfl) [some 6, some 7, some 8, some 9, some 10, some 11, some 12, some 13, some 14, some 15, some 16, some 17, none] rfl rfl 12 14 (fun q => q = D) (fun _ => False) [13] (by kernel_rfl) [0, 1, 2, 3, 4, 5, 6, 7, 8, 9, 10, 11] (by kernel_rfl) (by decide) (by decide) (.inl (by decide)) [(fun v _ => v = (.agg #[.slice none 0 0, .slice none 0 0])), (fun v _ => v = (.pointer (some ⟨b, 0, none⟩))), (fun v _ => v = (.pointer (some ⟨b, 0, none⟩))), (fun v _ => v = (.pointer (some ⟨b, 0, none⟩))), (fun v _ => v = (.slice (some ⟨g, off, none⟩) N cc)), (fun v _ => v = (.pointer (some ⟨b, 0, none⟩))), (fun v _ => v = (.pointer (some ⟨b, 0, none⟩))), (fun v _ => v = (.pointer (some ⟨b, 1, none⟩))), (fun v _ => v = (.int .i64 (i : Int))), (fun v _ => v = (.pointer (some ⟨g, off + i * 4, none⟩))), (fun v _ => v = (.pointer (some ⟨g, off + i * 4 + 3, none⟩))), (fun v _ => v = (.int .i64 (t.at_ : Int))), (fun v w1 => w1.heap[D]? = some (.cells #[.slice none 0 0, .slice none 0 0] 26 (0, 0)))] rfl ⟨?_, ?_, ?_, ?_, ?_, ?_, ?_, ?_, ?_, ?_, ?_, ?_, ?_, trivial⟩ _ rfl ⟨?_, ?_, ?_, ?_, ?_, ?_, ?_, ?_, ?_, ?_, ?_, ?_, ?_, trivial⟩ ?_
  · exact Stable.is _ _
  · exact Stable.is _ _
  · exact Stable.is _ _
  · exact Stable.is _ _
  · exact Stable.is _ _
  · exact Stable.is _ _
  · exact Stable.is _ _
  · exact Stable.is _ _
  · exact Stable.is _ _
  · exact Stable.is _ _
  · exact Stable.is _ _
  · exact Stable.is _ _
  · intro v w1 w2 h ho
    have ho : Only (fun _ => False) w1 w2 := ho
    exact (by exact (ho.block D (Array.getElem?_eq_some_iff.1 h).1 (fun h => h)).trans h)
  · intro x wx ox hN TT HTT
    have ox : Only (fun _ => False) _ wx := ox
    clear hN
    unfold StepTo
    simp only [putAll, Act.put, List.setIfInBounds_toArray, List.set_cons_succ, List.set_cons_zero]
    go_wp2_with fail
    exact ⟨rfl, _, rfl, HTT.out _ _ (rfl) (Only.refl _ _)⟩
  · intro x wx ox hN TT HTT
    have ox : Only (fun _ => False) _ wx := ox
    clear hN
    unfold StepTo
    simp only [putAll, Act.put, List.setIfInBounds_toArray, List.set_cons_succ, List.set_cons_zero]
    obtain ⟨x0, x1, x2, x3⟩ := HC.out wx (((Only.refl _ w).drew).trans ox)
    go_wp2_with fail
    exact ⟨rfl, _, rfl, HTT.out _ _ (rfl) (Only.refl _ _)⟩
  · intro x wx ox hN TT HTT
    have ox : Only (fun _ => False) _ wx := ox
    have r7 : x 1 = (.pointer (some ⟨b, 0, none⟩)) := hN.1 rfl
    clear hN
    unfold StepTo
    simp only [putAll, Act.put, List.setIfInBounds_toArray, List.set_cons_succ, List.set_cons_zero, r7]
    clear r7
    go_wp2_with fail
    exact ⟨rfl, _, rfl, HTT.out _ _ (rfl) (Only.refl _ _)⟩
  · intro x wx ox hN TT HTT
    have ox : Only (fun _ => False) _ wx := ox
    have r8 : x 2 = (.pointer (some ⟨b, 0, none⟩)) := hN.1 rfl
    clear hN
    unfold StepTo
    simp only [putAll, Act.put, List.setIfInBounds_toArray, List.set_cons_succ, List.set_cons_zero, r8]
    clear r8
    go_wp2_with fail
    exact ⟨rfl, _, rfl, HTT.out _ _ (rfl) (Only.refl _ _)⟩
  · intro x wx ox hN TT HTT
    have ox : Only (fun _ => False) _ wx := ox
    have r9 : x 3 = (.pointer (some ⟨b, 0, none⟩)) := hN.1 rfl
    clear hN
    unfold StepTo
    simp only [putAll, Act.put, List.setIfInBounds_toArray, List.set_cons_succ, List.set_cons_zero, r9]
    clear r9
    obtain ⟨x0, x1, x2, x3⟩ := HC.out wx (((Only.refl _ w).drew).trans ox)
    go_wp2_with fail
    exact ⟨rfl, _, rfl, HTT.out _ _ (rfl) (Only.refl _ _)⟩
  · intro x wx ox hN TT HTT
    have ox : Only (fun _ => False) _ wx := ox
    clear hN
    unfold StepTo
    simp only [putAll, Act.put, List.setIfInBounds_toArray, List.set_cons_succ, List.set_cons_zero]
    obtain ⟨x0, x1, x2, x3⟩ := HC.out wx (((Only.refl _ w).drew).trans ox)
    go_wp2_with fail
    exact ⟨rfl, _, rfl, HTT.out _ _ (rfl) (Only.refl _ _)⟩
  · intro x wx ox hN TT HTT
    have ox : Only (fun _ => False) _ wx := ox
    have r11 : x 5 = (.pointer (some ⟨b, 0, none⟩)) := hN.1 rfl
    clear hN
    unfold StepTo
    simp only [putAll, Act.put, List.setIfInBounds_toArray, List.set_cons_succ, List.set_cons_zero, r11]
    clear r11
    go_wp2_with fail
    exact ⟨rfl, _, rfl, HTT.out _ _ (rfl) (Only.refl _ _)⟩
  · intro x wx ox hN TT HTT
    have ox : Only (fun _ => False) _ wx := ox
    have r12 : x 6 = (.pointer (some ⟨b, 0, none⟩)) := hN.1 rfl
    clear hN
    unfold StepTo
    simp only [putAll, Act.put, List.setIfInBounds_toArray, List.set_cons_succ, List.set_cons_zero, r12]
    clear r12
    go_wp2_with fail
    exact ⟨rfl, _, rfl, HTT.out _ _ (rfl) (Only.refl _ _)⟩
  · intro x wx ox hN TT HTT
    have ox : Only (fun _ => False) _ wx := ox
    have r13 : x 7 = (.pointer (some ⟨b, 1, none⟩)) := hN.1 rfl
    clear hN
    unfold StepTo
    simp only [putAll, Act.put, List.setIfInBounds_toArray, List.set_cons_succ, List.set_cons_zero, r13]
    clear r13
    obtain ⟨x0, x1, x2, x3⟩ := HC.out wx (((Only.refl _ w).drew).trans ox)
    go_wp2_with fail
    exact ⟨rfl, _, rfl, HTT.out _ _ (rfl) (Only.refl _ _)⟩
  · intro x wx ox hN TT HTT
    have ox : Only (fun _ => False) _ wx := ox
    have r10 : x 4 = (.slice (some ⟨g, off, none⟩) N cc) := hN.1 rfl
    have r14 : x 8 = (.int .i64 (i : Int)) := hN.2.1 rfl
    clear hN
    unfold StepTo
    simp only [putAll, Act.put, List.setIfInBounds_toArray, List.set_cons_succ, List.set_cons_zero, r10, r14]
    clear r10 r14
    go_wp2_with fail
    exact ⟨rfl, _, rfl, HTT.out _ _ (rfl) (Only.refl _ _)⟩
  · intro x wx ox hN TT HTT
    have ox : Only (fun _ => False) _ wx := ox
    have r15 : x 9 = (.pointer (some ⟨g, off + i * 4, none⟩)) := hN.1 rfl
    clear hN
    unfold StepTo
    simp only [putAll, Act.put, List.setIfInBounds_toArray, List.set_cons_succ, List.set_cons_zero, r15]
    clear r15
    go_wp2_with fail
    exact ⟨rfl, _, rfl, HTT.out _ _ (rfl) (Only.refl _ _)⟩
  · intro x wx ox hN TT HTT
    have ox : Only (fun _ => False) _ wx := ox
    have r16 : x 10 = (.pointer (some ⟨g, off + i * 4 + 3, none⟩)) := hN.1 rfl
    clear hN
    unfold StepTo
    simp only [putAll, Act.put, List.setIfInBounds_toArray, List.set_cons_succ, List.set_cons_zero, r16]
    clear r16
    obtain ⟨x0, x1, x2, x3⟩ := HC.out wx (((Only.refl _ w).drew).trans ox)
    go_wp2_with fail
    exact ⟨rfl, _, rfl, HTT.out _ _ (rfl) (Only.refl _ _)⟩
  · intro x wx ox hN TT HTT
    have ox : Only (fun _ => False) _ wx := ox
    have r6 : x 0 = (.agg #[.slice none 0 0, .slice none 0 0]) := hN.1 rfl
    have r7 : x 1 = (.pointer (some ⟨b, 0, none⟩)) := hN.2.2.1 rfl
    have r10 : x 4 = (.slice (some ⟨g, off, none⟩) N cc) := hN.2.2.2.2.2.1 rfl
    have r11 : x 5 = (.pointer (some ⟨b, 0, none⟩)) := hN.2.2.2.2.2.2.1 rfl
    have r14 : x 8 = (.int .i64 (i : Int)) := hN.2.2.2.2.2.2.2.2.2.1 rfl
    have r17 : x 11 = (.int .i64 (t.at_ : Int)) := hN.2.2.2.2.2.2.2.2.2.2.2.2.1 rfl
    clear hN
    unfold StepTo
    simp only [putAll, Act.put, List.setIfInBounds_toArray, List.set_cons_succ, List.set_cons_zero, r6, r7, r10, r11, r14, r17]
    clear r6 r7 r10 r11 r14 r17
    have hd := (ox.block D (Array.getElem?_eq_some_iff.1 HD.out).1 (fun h => h)).trans HD.out
    go_wp2_with ((refine wpList_store_box (o := ⟨none, _, _, _, _, _⟩) rfl 26 (.tmp 2) (.tmp 6) (by rfl) D [d0, d1] [.slice none 0 0, .slice none 0 0] (by rfl) (by rfl) hd (by rfl) (by kernel_rfl) (by intro u hu; simp at hu; subst hu; rfl) ?_; intro w9 k1 k2))
    exact ⟨rfl, undef, rfl, HTT.out undef _ k1 k2⟩
  intro xz wxz oxz hN
  have oxz : Only (fun q => (fun q => q = D) q ∨ (fun _ => False) q) _ wxz := oxz
  have r6 : xz 0 = (.agg #[.slice none 0 0, .slice none 0 0]) := hN.1
  have r7 : xz 1 = (.pointer (some ⟨b, 0, none⟩)) := hN.2.1
  have r8 : xz 2 = (.pointer (some ⟨b, 0, none⟩)) := hN.2.2.1
  have r9 : xz 3 = (.pointer (some ⟨b, 0, none⟩)) := hN.2.2.2.1
  have r10 : xz 4 = (.slice (some ⟨g, off, none⟩) N cc) := hN.2.2.2.2.1
  have r11 : xz 5 = (.pointer (some ⟨b, 0, none⟩)) := hN.2.2.2.2.2.1
  have r12 : xz 6 = (.pointer (some ⟨b, 0, none⟩)) := hN.2.2.2.2.2.2.1
  have r13 : xz 7 = (.pointer (some ⟨b, 1, none⟩)) := hN.2.2.2.2.2.2.2.1
  have r14 : xz 8 = (.int .i64 (i : Int)) := hN.2.2.2.2.2.2.2.2.1
  have r15 : xz 9 = (.pointer (some ⟨g, off + i * 4, none⟩)) := hN.2.2.2.2.2.2.2.2.2.1
  have r16 : xz 10 = (.pointer (some ⟨g, off + i * 4 + 3, none⟩)) := hN.2.2.2.2.2.2.2.2.2.2.1
  have r17 : xz 11 = (.int .i64 (t.at_ : Int)) := hN.2.2.2.2.2.2.2.2.2.2.2.1
  have rN : (fun (v : Value) (w1 : World) => w1.heap[D]? = some (.cells #[.slice none 0 0, .slice none 0 0] 26 (0, 0))) (xz 12) wxz := hN.2.2.2.2.2.2.2.2.2.2.2.2.1
  clear hN
  simp only [putAll, Act.put, List.setIfInBounds_toArray, List.set_cons_succ, List.set_cons_zero, r6, r7, r8, r9, r10, r11, r12, r13, r14, r15, r16, r17]
  clear r6 r7 r8 r9 r10 r11 r12 r13 r14 r15 r16 r17
  have hA9 := (oxz.block A (Array.getElem?_eq_some_iff.1 HA.out).1 (fun h => by rcases h with h | h; have h : A = D := h; omega; exact h)).trans HA.out
  have hA8 := heap_set (o := 0) hA9 (.int .i64 (t.at_ : Int))
  have hA8 : (wxz.setCell ⟨A, 0, none⟩ (.int .i64 (t.at_ : Int))).heap[A]? = some (.cells #[.int .i64 (t.at_ : Int)] 3 (0, 0)) := by simpa using hA8
  have hD8 := heap_set_ne (a := ⟨A, 0, none⟩) rN (by show D ≠ A; exact hDA) (.int .i64 (t.at_ : Int))
  have hO8 : Only (fun k => k = D ∨ k = A) w (wxz.setCell ⟨A, 0, none⟩ (.int .i64 (t.at_ : Int))) := (((Only.refl _ w).drew).trans' oxz (fun q _ h => .inl (by rcases h with h | h; exact h; exact h.elim))).setCell (p := ⟨A, 0, none⟩) (.inl (.inr rfl)) _
  obtain ⟨c0, fz⟩ := box1 hA9
  have HA8 := Lib.hid hA8; have HD8 := Lib.hid hD8; have HO8 := Lib.hid hO8
  clear hA9 hA8 hD8 hO8 rN oxz
  go_wp2_with fail
  go_end0
  first
    | exact ⟨rfl, rfl, HD8.out, HA8.out, HO8.out⟩
    | exact ⟨rfl, HD8.out, HA8.out, HO8.out⟩
    | exact ⟨HD8.out, HA8.out, HO8.out⟩
end Go.Proofs.YtgephneppgcnlaaDoor
