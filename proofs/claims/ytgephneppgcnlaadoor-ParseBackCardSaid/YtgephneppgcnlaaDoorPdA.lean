/- Tokens, in plain Lean: the end is last; a fault's number. parse.Document's deferred calls. parse.Document: its answer; the loop's invariant; the door. -/
import Derived.Test.YtgephneppgcnlaaDoorPrd
import Derived.Test.YtgephneppgcnlaaDoorTkA
import Derived.Test.YtgephneppgcnlaaDoorOwC
import Derived.Test.YtgephneppgcnlaaDoorEnD
import Derived.Test.YtgephneppgcnlaaDoorPvh
import Derived.Test.YtgephneppgcnlaaDoorRgA
import Derived.Recover
import Derived.Test.YtgephneppgcnlaaDoorPrA
namespace Go.Proofs.YtgephneppgcnlaaDoor
open Go Go.RowKit
set_option linter.unusedVariables false
set_option linter.unusedSimpArgs false

theorem box1 {w : World} {b : Nat} {x0 : Value} {T : TypeId} (h : w.heap[b]? = some (.cells #[x0] T (0, 0))) : w.cell? ⟨b, 0, none⟩ = some x0 ∧ ∀ o, w.frozen? ⟨b, o, none⟩ = false := by
  refine ⟨?_, fun o => ?_⟩ <;> simp [World.cell?, World.frozen?, h]
theorem assert_fault (v : Value) (w : World) : (Instr.typeAssert (.iface 105 v) 20 105 true).run Tryd.prog w = .ok (.tuple #[v, .bool true]) w := by kernel_rfl
set_option maxRecDepth 100000 in
set_option maxHeartbeats 4000000 in
/-- A panic is caught: its error is laid. -/
theorem caught_bad (X c : Nat) (x : Value) (w : World) (hx : w.heap[X]? = some (.cells #[x] 27 (0, 0))) :
    CallsD Tryd.prog 25 #[.pointer (some ⟨X, 0, none⟩)] (.panicking (faultV c)) w fun e u' w' =>
      e = .returned (.tuple #[]) ∧ settle u' = .returning ∧ w'.heap[X]? = some (.cells #[.int .i64 (c : Int)] 27 (0, 0)) ∧ Only (fun k => k = X) w w' := by
  obtain ⟨c0, fz⟩ := box1 hx
  have hX := (Array.getElem?_eq_some_iff.1 hx).1
  refine callsD_of_wpS Tryd.func25 rfl fun c₀ cs hu => ?_
  apply wpS_seq
  apply wpS_region
  simp [wpOpsS, go_sem, recoverD, hu, faultV, Tryd.ntmps25, Exit.thenS]
  apply wpS_seq
  apply wpS_region
  simp [wpOpsS, go_sem, Exit.thenS]
  refine wpS_cond (t := true) (by simp [Act.eval]) ?_
  simp only [if_true]
  refine wpS_of_wp ?_
  obtain ⟨PP, hPP⟩ : ∃ PP : World → Prop, ∀ w', PP w' ↔ (w'.heap[X]? = some (.cells #[.int .i64 (c : Int)] 27 (0, 0)) ∧ Only (fun k => k = X) w w') := ⟨_, fun _ => Iff.rfl⟩
  refine Code.wp_mono (Q := fun e a' w' => e = Exit.normal ∧ a'.defers = [] ∧ PP w') ?_ ?_
  · rintro e a' w' ⟨rfl, hd, hh⟩
    obtain ⟨h1, h2⟩ := (hPP _).1 hh
    refine ⟨hd, _, rfl, .tuple #[], by simp [results, Tryd.results25, go_sem], rfl, rfl, h1, h2⟩
  · have hw1 := heap_set (o := 0) hx (.int .i64 (c : Int))
    have hw2 : ((w.setCell ⟨X, 0, none⟩ (.int .i64 (c : Int))).alloc (.cells #[.int .i64 (c : Int)] 105)).heap[X]? = some (.cells #[.int .i64 (c : Int)] 27 (0, 0)) := heap_old (by simpa using hw1) _
    have ho : Only (fun k => k = X) w ((w.setCell ⟨X, 0, none⟩ (.int .i64 (c : Int))).alloc (.cells #[.int .i64 (c : Int)] 105)) := ((Only.refl (fun k => k = X) w).setCell (p := ⟨X, 0, none⟩) (.inl rfl) _).alloc _
    have HH := Lib.hid ((hPP _).2 ⟨hw2, ho⟩)
    have has := assert_fault
    clear hu hx hw1 hw2 ho hPP
    show Code.wp _ _ _ { tmps := #[.pointer (some ⟨X, 0, none⟩), undef, (.iface 105 (.agg #[.int .i64 (c : Int)])), undef, undef, (.iface 105 (.agg #[.int .i64 (c : Int)])), (.iface 105 (.agg #[.int .i64 (c : Int)])), .bool true, undef, undef, undef, undef, undef, undef, undef, undef, undef, undef, undef, undef], defers := [] } _
    go_wp2_with fail
    first
      | exact HH.out
      | exact ⟨rfl, rfl, HH.out⟩
set_option maxRecDepth 100000 in
set_option maxHeartbeats 4000000 in
/-- There is no panic: nothing is done. -/
theorem caught_ok (X : Nat) (w : World) :
    CallsD Tryd.prog 25 #[.pointer (some ⟨X, 0, none⟩)] .returning w fun e u' w' => e = .returned (.tuple #[]) ∧ u' = .returning ∧ w' = w := by
  refine callsD_of_wpS Tryd.func25 rfl fun c₀ cs hu => ?_
  apply wpS_seq
  apply wpS_region
  simp [wpOpsS, go_sem, recoverD, hu, Tryd.ntmps25, Exit.thenS]
  apply wpS_seq
  apply wpS_region
  simp [wpOpsS, go_sem, Exit.thenS]
  refine wpS_cond (t := false) (by simp [Act.eval]) ?_
  simp only [Bool.false_eq_true, if_false]
  refine wpS_of_wp ?_
  refine Code.wp_mono (Q := fun e a' w' => e = Exit.normal ∧ a'.defers = [] ∧ w' = w) ?_ ?_
  · rintro e a' w' ⟨rfl, hd, rfl⟩
    refine ⟨hd, .returning, ?_, .tuple #[], by simp [results, Tryd.results25, go_sem], rfl, rfl, rfl⟩
    cases c₀; simp_all
  · exact wp_skip ⟨rfl, rfl, rfl⟩
set_option maxRecDepth 100000 in
set_option maxHeartbeats 4000000 in
/-- Behind all: no error. -/
theorem doc1_ok (E Rb D A : Nat) (u : FrameMode) (w : World) (hE : w.heap[E]? = some (.cells #[.int .i64 0] 27 (0, 0))) :
    CallsD Tryd.prog 24 #[.pointer (some ⟨E, 0, none⟩), .pointer (some ⟨Rb, 0, none⟩), .pointer (some ⟨D, 0, none⟩), .pointer (some ⟨A, 0, none⟩)] u w fun e u' w' => u' = u ∧ e = .returned (.tuple #[]) ∧ w' = w := by
  obtain ⟨c0, fz⟩ := box1 hE
  clear hE
  go_enter_d Tryd.func24, Tryd.ntmps24
  go_wp2_with fail
  go_end0
  first
    | exact ⟨rfl, rfl, rfl⟩
    | exact ⟨rfl, rfl⟩
    | rfl
set_option maxRecDepth 100000 in
set_option maxHeartbeats 4000000 in
/-- Behind all: an error; nothing is told but its place. -/
theorem doc1_bad (E Rb D A b : Nat) (c : Nat) (x : Int) (d0 d1 : Value) (all r : List Tok) (dp : Int) (u : FrameMode) (w : World) (hE : w.heap[E]? = some (.cells #[.int .i64 (c : Int)] 27 (0, 0))) (hc : c ≠ 0)
    (hR : w.heap[Rb]? = some (.cells #[.pointer (some ⟨b, 0, none⟩)] 76 (0, 0))) (hD : w.heap[D]? = some (.cells #[d0, d1] 26 (0, 0))) (hA : w.heap[A]? = some (.cells #[.int .i64 x] 3 (0, 0))) (h : RdP w b all r dp) (hDA : D ≠ A) (hbD : b ≠ D) (hRD : Rb ≠ D) (hgD : ∀ g off n c', w.cell? ⟨b, 0, none⟩ = some (.slice (some ⟨g, off, none⟩) n c') → g ≠ D) :
    CallsD Tryd.prog 24 #[.pointer (some ⟨E, 0, none⟩), .pointer (some ⟨Rb, 0, none⟩), .pointer (some ⟨D, 0, none⟩), .pointer (some ⟨A, 0, none⟩)] u w fun e u' w' => u' = u ∧ e = .returned (.tuple #[]) ∧
      w'.heap[D]? = some (.cells #[.slice none 0 0, .slice none 0 0] 26 (0, 0)) ∧ w'.heap[A]? = some (.cells #[.int .i64 (atT r : Int)] 3 (0, 0)) ∧ Only (fun k => k = D ∨ k = A) w w' := by
  obtain ⟨e0, efz⟩ := box1 hE
  obtain ⟨g, off, cc, N, t, r', rfl, i, c0, c1, c2, fz, hi, hcp, hN, hcm, a1, a2, a3, a4⟩ := h.next
  have hgd := hgD _ _ _ _ c0
  have hne : ((c : Int) != 0) = true := by simp; omega
  have HD := Lib.hid hD; have HA := Lib.hid hA; have HR := Lib.hid hR
  have hz1 := heap_set (o := 0) hD (.slice none 0 0)
  have hcells : ∀ wx, Only (fun _ => False) w wx → wx.cell? ⟨b, 0, none⟩ = some (.slice (some ⟨g, off, none⟩) N cc) ∧ wx.cell? ⟨b, 1, none⟩ = some (.int .i64 (i : Int)) ∧ wx.cell? ⟨g, off + i * 4 + 3, none⟩ = some (.int .i64 (t.at_ : Int)) ∧ wx.cell? ⟨Rb, 0, none⟩ = some (.pointer (some ⟨b, 0, none⟩)) := fun wx o =>
    ⟨(cell_keep o (cell_lt c0) (fun h => h)).trans c0, (cell_keep o (cell_lt c1) (fun h => h)).trans c1, (cell_keep o (cell_lt a4) (fun h => h)).trans a4, (cell_keep o (cell_lt (box1 hR).1) (fun h => h)).trans (box1 hR).1⟩
  have HC := Lib.hid hcells
  clear hcells hD hA hR h hgD hE c0 c1 c2 fz a1 a2 a3 a4 hz1
  have hiN : (i : Int) < (N : Int) := by omega
  go_enter_d Tryd.func24, Tryd.ntmps24
  go_upto_region 1 with (fail)
  clear e0 efz hne
  refine wp_region_stepsM 13 (by kernel_rfl) rfl (by kernel_rfl) [some 6, some 7, some 8, some 9, some 10, some 11, some 12, some 13, some 14, some 15, some 16, some 17, none] rfl rfl 12 14 (fun q => q = D) (fun _ => False) [13] (by kernel_rfl) [0, 1, 2, 3, 4, 5, 6, 7, 8, 9, 10, 11] (by kernel_rfl) (by decide) (by decide) (.inl (by decide)) [(fun v _ => v = (.agg #[.slice none 0 0, .slice none 0 0])), (fun v _ => v = (.pointer (some ⟨b, 0, none⟩))), (fun v _ => v = (.pointer (some ⟨b, 0, none⟩))), (fun v _ => v = (.pointer (some ⟨b, 0, none⟩))), (fun v _ => v = (.slice (some ⟨g, off, none⟩) N cc)), (fun v _ => v = (.pointer (some ⟨b, 0, none⟩))), (fun v _ => v = (.pointer (some ⟨b, 0, none⟩))), (fun v _ => v = (.pointer (some ⟨b, 1, none⟩))), (fun v _ => v = (.int .i64 (i : Int))), (fun v _ => v = (.pointer (some ⟨g, off + i * 4, none⟩))), (fun v _ => v = (.pointer (some ⟨g, off + i * 4 + 3, none⟩))), (fun v _ => v = (.int .i64 (t.at_ : Int))), (fun v w1 => w1.heap[D]? = some (.cells #[.slice none 0 0, .slice none 0 0] 26 (0, 0)))] rfl ⟨?_, ?_, ?_, ?_, ?_, ?_, ?_, ?_, ?_, ?_, ?_, ?_, ?_, trivial⟩ _ rfl ⟨?_, ?_, ?_, ?_, ?_, ?_, ?_, ?_, ?_, ?_, ?_, ?_, ?_, trivial⟩ ?_
  · exact Stable.is _ _
  · exact Stable.is _ _
  · exact Stable.is _ _
  · exact Stable.is _ _
  · exact Stable.is _ _
  · exact Stable.is _ _
  · exact Stable.is _ _
  · exact Stable.is _ _
  · exact Stable.is _ _
  · exact Stable.is _ _
  · exact Stable.is _ _
  · exact Stable.is _ _
  · intro v w1 w2 h ho
    have ho : Only (fun _ => False) w1 w2 := ho
    exact (by exact (ho.block D (Array.getElem?_eq_some_iff.1 h).1 (fun h => h)).trans h)
  · intro x wx ox hN TT HTT
    have ox : Only (fun _ => False) _ wx := ox
    clear hN
    unfold StepTo
    simp only [putAll, Act.put, List.setIfInBounds_toArray, List.set_cons_succ, List.set_cons_zero]
    go_wp2_with fail
    exact ⟨rfl, _, rfl, HTT.out _ _ (rfl) (Only.refl _ _)⟩
  · intro x wx ox hN TT HTT
    have ox : Only (fun _ => False) _ wx := ox
    clear hN
    unfold StepTo
    simp only [putAll, Act.put, List.setIfInBounds_toArray, List.set_cons_succ, List.set_cons_zero]
    obtain ⟨x0, x1, x2, x3⟩ := HC.out wx (((Only.refl _ w).drew).trans ox)
    go_wp2_with fail
    exact ⟨rfl, _, rfl, HTT.out _ _ (rfl) (Only.refl _ _)⟩
  · intro x wx ox hN TT HTT
    have ox : Only (fun _ => False) _ wx := ox
    have r7 : x 1 = (.pointer (some ⟨b, 0, none⟩)) := hN.1 rfl
    clear hN
    unfold StepTo
    simp only [putAll, Act.put, List.setIfInBounds_toArray, List.set_cons_succ, List.set_cons_zero, r7]
    clear r7
    go_wp2_with fail
    exact ⟨rfl, _, rfl, HTT.out _ _ (rfl) (Only.refl _ _)⟩
  · intro x wx ox hN TT HTT
    have ox : Only (fun _ => False) _ wx := ox
    have r8 : x 2 = (.pointer (some ⟨b, 0, none⟩)) := hN.1 rfl
    clear hN
    unfold StepTo
    simp only [putAll, Act.put, List.setIfInBounds_toArray, List.set_cons_succ, List.set_cons_zero, r8]
    clear r8
    go_wp2_with fail
    exact ⟨rfl, _, rfl, HTT.out _ _ (rfl) (Only.refl _ _)⟩
  · intro x wx ox hN TT HTT
    have ox : Only (fun _ => False) _ wx := ox
    have r9 : x 3 = (.pointer (some ⟨b, 0, none⟩)) := hN.1 rfl
    clear hN
    unfold StepTo
    simp only [putAll, Act.put, List.setIfInBounds_toArray, List.set_cons_succ, List.set_cons_zero, r9]
    clear r9
    obtain ⟨x0, x1, x2, x3⟩ := HC.out wx (((Only.refl _ w).drew).trans ox)
    go_wp2_with fail
    exact ⟨rfl, _, rfl, HTT.out _ _ (rfl) (Only.refl _ _)⟩
  · intro x wx ox hN TT HTT
    have ox : Only (fun _ => False) _ wx := ox
    clear hN
    unfold StepTo
    simp only [putAll, Act.put, List.setIfInBounds_toArray, List.set_cons_succ, List.set_cons_zero]
    obtain ⟨x0, x1, x2, x3⟩ := HC.out wx (((Only.refl _ w).drew).trans ox)
    go_wp2_with fail
    exact ⟨rfl, _, rfl, HTT.out _ _ (rfl) (Only.refl _ _)⟩
  · intro x wx ox hN TT HTT
    have ox : Only (fun _ => False) _ wx := ox
    have r11 : x 5 = (.pointer (some ⟨b, 0, none⟩)) := hN.1 rfl
    clear hN
    unfold StepTo
    simp only [putAll, Act.put, List.setIfInBounds_toArray, List.set_cons_succ, List.set_cons_zero, r11]
    clear r11
    go_wp2_with fail
    exact ⟨rfl, _, rfl, HTT.out _ _ (rfl) (Only.refl _ _)⟩
  · intro x wx ox hN TT HTT
    have ox : Only (fun _ => False) _ wx := ox
    have r12 : x 6 = (.pointer (some ⟨b, 0, none⟩)) := hN.1 rfl
    clear hN
    unfold StepTo
    simp only [putAll, Act.put, List.setIfInBounds_toArray, List.set_cons_succ, List.set_cons_zero, r12]
    clear r12
    go_wp2_with fail
    exact ⟨rfl, _, rfl, HTT.out _ _ (rfl) (Only.refl _ _)⟩
  · intro x wx ox hN TT HTT
    have ox : Only (fun _ => False) _ wx := ox
    have r13 : x 7 = (.pointer (some ⟨b, 1, none⟩)) := hN.1 rfl
    clear hN
    unfold StepTo
    simp only [putAll, Act.put, List.setIfInBounds_toArray, List.set_cons_succ, List.set_cons_zero, r13]
    clear r13
    obtain ⟨x0, x1, x2, x3⟩ := HC.out wx (((Only.refl _ w).drew).trans ox)
    go_wp2_with fail
    exact ⟨rfl, _, rfl, HTT.out _ _ (rfl) (Only.refl _ _)⟩
  · intro x wx ox hN TT HTT
    have ox : Only (fun _ => False) _ wx := ox
    have r10 : x 4 = (.slice (some ⟨g, off, none⟩) N cc) := hN.1 rfl
    have r14 : x 8 = (.int .i64 (i : Int)) := hN.2.1 rfl
    clear hN
    unfold StepTo
    simp only [putAll, Act.put, List.setIfInBounds_toArray, List.set_cons_succ, List.set_cons_zero, r10, r14]
    clear r10 r14
    go_wp2_with fail
    exact ⟨rfl, _, rfl, HTT.out _ _ (rfl) (Only.refl _ _)⟩
  · intro x wx ox hN TT HTT
    have ox : Only (fun _ => False) _ wx := ox
    have r15 : x 9 = (.pointer (some ⟨g, off + i * 4, none⟩)) := hN.1 rfl
    clear hN
    unfold StepTo
    simp only [putAll, Act.put, List.setIfInBounds_toArray, List.set_cons_succ, List.set_cons_zero, r15]
    clear r15
    go_wp2_with fail
    exact ⟨rfl, _, rfl, HTT.out _ _ (rfl) (Only.refl _ _)⟩
  · intro x wx ox hN TT HTT
    have ox : Only (fun _ => False) _ wx := ox
    have r16 : x 10 = (.pointer (some ⟨g, off + i * 4 + 3, none⟩)) := hN.1 rfl
    clear hN
    unfold StepTo
    simp only [putAll, Act.put, List.setIfInBounds_toArray, List.set_cons_succ, List.set_cons_zero, r16]
    clear r16
    obtain ⟨x0, x1, x2, x3⟩ := HC.out wx (((Only.refl _ w).drew).trans ox)
    go_wp2_with fail
    exact ⟨rfl, _, rfl, HTT.out _ _ (rfl) (Only.refl _ _)⟩
  · intro x wx ox hN TT HTT
    have ox : Only (fun _ => False) _ wx := ox
    have r6 : x 0 = (.agg #[.slice none 0 0, .slice none 0 0]) := hN.1 rfl
    have r7 : x 1 = (.pointer (some ⟨b, 0, none⟩)) := hN.2.2.1 rfl
    have r10 : x 4 = (.slice (some ⟨g, off, none⟩) N cc) := hN.2.2.2.2.2.1 rfl
    have r11 : x 5 = (.pointer (some ⟨b, 0, none⟩)) := hN.2.2.2.2.2.2.1 rfl
    have r14 : x 8 = (.int .i64 (i : Int)) := hN.2.2.2.2.2.2.2.2.2.1 rfl
    have r17 : x 11 = (.int .i64 (t.at_ : Int)) := hN.2.2.2.2.2.2.2.2.2.2.2.2.1 rfl
    clear hN
    unfold StepTo
    simp only [putAll, Act.put, List.setIfInBounds_toArray, List.set_cons_succ, List.set_cons_zero, r6, r7, r10, r11, r14, r17]
    clear r6 r7 r10 r11 r14 r17
    have hd := (ox.block D (Array.getElem?_eq_some_iff.1 HD.out).1 (fun h => h)).trans HD.out
    go_wp2_with ((refine wpList_store_box (o := ⟨none, _, _, _, _, _⟩) rfl 26 (.tmp 2) (.tmp 6) (by rfl) D [d0, d1] [.slice none 0 0, .slice none 0 0] (by rfl) (by rfl) hd (by rfl) (by kernel_rfl) (by intro u hu; simp at hu; subst hu; rfl) ?_; intro w9 k1 k2))
    exact ⟨rfl, undef, rfl, HTT.out undef _ k1 k2⟩
  intro xz wxz oxz hN
  have oxz : Only (fun q => (fun q => q = D) q ∨ (fun _ => False) q) _ wxz := oxz
  have r6 : xz 0 = (.agg #[.slice none 0 0, .slice none 0 0]) := hN.1
  have r7 : xz 1 = (.pointer (some ⟨b, 0, none⟩)) := hN.2.1
  have r8 : xz 2 = (.pointer (some ⟨b, 0, none⟩)) := hN.2.2.1
  have r9 : xz 3 = (.pointer (some ⟨b, 0, none⟩)) := hN.2.2.2.1
  have r10 : xz 4 = (.slice (some ⟨g, off, none⟩) N cc) := hN.2.2.2.2.1
  have r11 : xz 5 = (.pointer (some ⟨b, 0, none⟩)) := hN.2.2.2.2.2.1
  have r12 : xz 6 = (.pointer (some ⟨b, 0, none⟩)) := hN.2.2.2.2.2.2.1
  have r13 : xz 7 = (.pointer (some ⟨b, 1, none⟩)) := hN.2.2.2.2.2.2.2.1
  have r14 : xz 8 = (.int .i64 (i : Int)) := hN.2.2.2.2.2.2.2.2.1
  have r15 : xz 9 = (.pointer (some ⟨g, off + i * 4, none⟩)) := hN.2.2.2.2.2.2.2.2.2.1
  have r16 : xz 10 = (.pointer (some ⟨g, off + i * 4 + 3, none⟩)) := hN.2.2.2.2.2.2.2.2.2.2.1
  have r17 : xz 11 = (.int .i64 (t.at_ : Int)) := hN.2.2.2.2.2.2.2.2.2.2.2.1
  have rN : (fun (v : Value) (w1 : World) => w1.heap[D]? = some (.cells #[.slice none 0 0, .slice none 0 0] 26 (0, 0))) (xz 12) wxz := hN.2.2.2.2.2.2.2.2.2.2.2.2.1
  clear hN
  simp only [putAll, Act.put, List.setIfInBounds_toArray, List.set_cons_succ, List.set_cons_zero, r6, r7, r8, r9, r10, r11, r12, r13, r14, r15, r16, r17]
  clear r6 r7 r8 r9 r10 r11 r12 r13 r14 r15 r16 r17
  have hA9 := (oxz.block A (Array.getElem?_eq_some_iff.1 HA.out).1 (fun h => by rcases h with h | h; have h : A = D := h; omega; exact h)).trans HA.out
  have hA8 := heap_set (o := 0) hA9 (.int .i64 (t.at_ : Int))
  have hA8 : (wxz.setCell ⟨A, 0, none⟩ (.int .i64 (t.at_ : Int))).heap[A]? = some (.cells #[.int .i64 (t.at_ : Int)] 3 (0, 0)) := by simpa using hA8
  have hD8 := heap_set_ne (a := ⟨A, 0, none⟩) rN (by show D ≠ A; exact hDA) (.int .i64 (t.at_ : Int))
  have hO8 : Only (fun k => k = D ∨ k = A) w (wxz.setCell ⟨A, 0, none⟩ (.int .i64 (t.at_ : Int))) := (((Only.refl _ w).drew).trans' oxz (fun q _ h => .inl (by rcases h with h | h; exact h; exact h.elim))).setCell (p := ⟨A, 0, none⟩) (.inl (.inr rfl)) _
  obtain ⟨c0, fz⟩ := box1 hA9
  have HA8 := Lib.hid hA8; have HD8 := Lib.hid hD8; have HO8 := Lib.hid hO8
  clear hA9 hA8 hD8 hO8 rN oxz
  go_wp2_with fail
  go_end0
  first
    | exact ⟨rfl, rfl, HD8.out, HA8.out, HO8.out⟩
    | exact ⟨rfl, HD8.out, HA8.out, HO8.out⟩
    | exact ⟨HD8.out, HA8.out, HO8.out⟩
end Go.Proofs.YtgephneppgcnlaaDoor
namespace Go.Proofs.YtgephneppgcnlaaDoor
open Go Go.RowKit
set_option linter.unusedVariables false
set_option linter.unusedSimpArgs false

/-- What parse.Document hands back. -/
def DocRes (w : World) (p : DR1) (e : Ending) (w' : World) : Prop := match p with
  | .ok d => ∃ a1 c1 a2 c2, e = .returned (.tuple #[.agg #[.slice a1 d.ops.length c1, .slice a2 d.frags.length c2], .int .i64 0, .int .i64 0]) ∧ CellsAt w' (fun q => w.heap.size ≤ q) (docC d) [.slice a1 d.ops.length c1, .slice a2 d.frags.length c2] ∧ Only (fun _ => False) w w'
  | .bad a c => e = .returned (.tuple #[.agg #[.slice none 0 0, .slice none 0 0], .int .i64 (a : Int), .int .i64 (c : Int)]) ∧ Only (fun _ => False) w w'
def DocI (w : World) (D A E Rb b : Nat) (all : List Tok) (R : PR DC) (more : Bool) (wr : World) : Prop :=
  ∃ (acc : DC) (rest : List Tok) (vO vF : Value), wr.heap[D]? = some (.cells #[vO, vF] 26 (0, 0)) ∧ wr.heap[A]? = some (.cells #[.int .i64 0] 3 (0, 0)) ∧ wr.heap[E]? = some (.cells #[.int .i64 0] 27 (0, 0)) ∧ wr.heap[Rb]? = some (.cells #[.pointer (some ⟨b, 0, none⟩)] 76 (0, 0)) ∧
    OwnTwo wr (Rb + 1) 39 53 4 3 vO vF (acc.ops.map opC) (acc.frags.map frC) ∧ RdP wr b all rest (24 - ((24 : Nat) : Int)) ∧ Only (fun _ => False) w wr ∧ acc.ops.length + acc.frags.length + rest.length ≤ 1000000 ∧
    (more = true → ∃ n, rest.length < n ∧ docF n acc rest = R) ∧ (more = false → R = .ok acc rest)
def dfC (E : Nat) : Deferred := { target := Target.fn (Fn.func 25) #[], args := #[.pointer (some ⟨E, 0, none⟩)] }
def dfD (E Rb D A : Nat) : Deferred := { target := Target.fn (Fn.func 24) #[.pointer (some ⟨E, 0, none⟩), .pointer (some ⟨Rb, 0, none⟩), .pointer (some ⟨D, 0, none⟩), .pointer (some ⟨A, 0, none⟩)], args := #[] }
theorem infoO : (Tryd.prog.info? 39).map (fun i => (i.zero, i.size, i.bytes)) = some (some (.agg #[.bool false, .string ByteArray.empty, .slice none 0 0, .slice none 0 0]), 4, 72) := by kernel_rfl
theorem infoF : (Tryd.prog.info? 53).map (fun i => (i.zero, i.size, i.bytes)) = some (some (.agg #[.string ByteArray.empty, .string ByteArray.empty, .slice none 0 0]), 3, 56) := by kernel_rfl
theorem RdP.apart {w : World} {b : Nat} {all r : List Tok} {dp : Int} (h : RdP w b all r dp) {k : Nat} {xs : Array Value} {T : TypeId} (hk : w.heap[k]? = some (.cells xs T (0, 0))) (hx : ∀ (i : Nat) (n : Int), xs[i]? ≠ some (.int .u8 n)) {g off n c : Nat} (hc : w.cell? ⟨b, 0, none⟩ = some (.slice (some ⟨g, off, none⟩) n c)) : g ≠ k := by
  obtain ⟨g', off', c', N, t, r', rfl, i, c0, c1, c2, fz, hi, hcp, hN, hcm, a1, -⟩ := h.next
  rw [hc] at c0
  injection c0 with c0; injection c0 with c0 _ _; injection c0 with c0; injection c0 with e1 e2 _
  subst e1
  rintro rfl
  simp only [World.cell?, hk] at a1
  exact hx _ _ (by simpa using a1)
theorem slices_no (a : Option Addr) (l c : Nat) (a' : Option Addr) (l' c' : Nat) (i : Nat) (n : Int) : (#[.slice a l c, .slice a' l' c'] : Array Value)[i]? ≠ some (.int .u8 n) := by
  rcases i with _ | _ | i <;> simp
theorem i64_no (m : Int) (i : Nat) (n : Int) : (#[.int .i64 m] : Array Value)[i]? ≠ some (.int .u8 n) := by
  rcases i with _ | i <;> simp
theorem rdP_old {w w' : World} {b k : Nat} {all r : List Tok} {dp : Int} (h : RdP w b all r dp) (o1 : Only (fun q => q = k) w w') (hbk : b ≠ k) (hg : ∀ g off n c', w.cell? ⟨b, 0, none⟩ = some (.slice (some ⟨g, off, none⟩) n c') → g ≠ k) : RdP w' b all r dp := by
  obtain ⟨g, off, c', i, q1, q2, q3, q4, q5⟩ := h.row
  have hgE : g ≠ k := hg g off all.length c' (by simp [World.cell?, q1])
  refine ⟨⟨g, off, c', i, (o1.block b h.lt (by omega)).trans q1, q2.only o1 (fun a n c e => ?_), q3, q4, q5⟩, h.ends, h.few⟩
  injection e with e; injection e with e; subst e
  show ¬ g = k; exact hgE
theorem RdP.below {w : World} {b : Nat} {all r : List Tok} {dp : Int} (h : RdP w b all r dp) {g off n c : Nat} (hc : w.cell? ⟨b, 0, none⟩ = some (.slice (some ⟨g, off, none⟩) n c)) : g < b := by
  obtain ⟨g', off', c', i, h1, h2, h3, h4, h5⟩ := h.row
  simp [World.cell?, h1] at hc
  omega
/-- The door, where a panic comes. -/
theorem door2_bad {fn : Func} {tmps : Array Value} {R : Ending → World → Prop} {D A E Rb b c : Nat} {d0 d1 : Value} {x : Int} {all r : List Tok} {dp : Int} {w : World} (hc : c ≠ 0)
    (hD : w.heap[D]? = some (.cells #[d0, d1] 26 (0, 0))) (hA : w.heap[A]? = some (.cells #[.int .i64 x] 3 (0, 0))) (hE : w.heap[E]? = some (.cells #[.int .i64 0] 27 (0, 0))) (hRb : w.heap[Rb]? = some (.cells #[.pointer (some ⟨b, 0, none⟩)] 76 (0, 0)))
    (h : RdP w b all r dp) (h1 : D < A) (h2 : A < E) (h3 : E < b) (h4 : b < Rb) (hd : ∀ (i : Nat) (n : Int), (#[d0, d1] : Array Value)[i]? ≠ some (.int .u8 n))
    (hR : ∀ w', w'.heap[D]? = some (.cells #[.slice none 0 0, .slice none 0 0] 26 (0, 0)) → w'.heap[A]? = some (.cells #[.int .i64 (atT r : Int)] 3 (0, 0)) → w'.heap[E]? = some (.cells #[.int .i64 (c : Int)] 27 (0, 0)) → Only (fun k => k = D ∨ k = A ∨ k = E) w w' → ∃ v, (results fn tmps).run Tryd.prog w' = .ok v w' ∧ R (.returned v) w') :
    bodyPostD Tryd.prog fn R (Exit.panic (faultV c)) { tmps := tmps, defers := [dfC E, dfD E Rb D A] } w := by
  refine leaves_cons (f := 25) (args := #[.pointer (some ⟨E, 0, none⟩)]) (by simp) (by simp [go_sem]) ?_
  refine (caught_bad E c _ w hE).mono ?_
  rintro e u' w1 ⟨rfl, hu, e1, o1⟩
  have hD1 := (o1.block D (Array.getElem?_eq_some_iff.1 hD).1 (by omega)).trans hD
  have hA1 := (o1.block A (Array.getElem?_eq_some_iff.1 hA).1 (by omega)).trans hA
  have hR1 := (o1.block Rb (Array.getElem?_eq_some_iff.1 hRb).1 (by omega)).trans hRb
  have hr1 : RdP w1 b all r dp := rdP_old h o1 (by omega) (fun g off n c' hcc => h.apart hE (i64_no 0) hcc)
  show Leaves _ _ _ _ _ (settle u') w1
  rw [hu]
  refine leaves_cons (f := 24) (args := #[.pointer (some ⟨E, 0, none⟩), .pointer (some ⟨Rb, 0, none⟩), .pointer (some ⟨D, 0, none⟩), .pointer (some ⟨A, 0, none⟩)]) (by simp) (by simp [go_sem]) ?_
  refine (doc1_bad E Rb D A b c x d0 d1 all r dp _ w1 e1 hc hR1 hD1 hA1 hr1 (by omega) (by omega) (by omega) (fun g off n c' hcc => hr1.apart hD1 hd hcc)).mono ?_
  rintro e u'' w2 ⟨rfl, rfl, k1, k2, k3⟩
  exact hR w2 k1 k2 ((k3.block E (Array.getElem?_eq_some_iff.1 e1).1 (by omega)).trans e1) ((o1.mono (fun q _ h => .inr (.inr h))).trans (k3.mono (fun q _ h => h.elim .inl (fun h => .inr (.inl h)))))
/-- The door, where the call returns. -/
theorem door2_ok {fn : Func} {tmps : Array Value} {R : Ending → World → Prop} {D A E Rb : Nat} {w : World} (hE : w.heap[E]? = some (.cells #[.int .i64 0] 27 (0, 0)))
    (hR : ∃ v, (results fn tmps).run Tryd.prog w = .ok v w ∧ R (.returned v) w) :
    bodyPostD Tryd.prog fn R Exit.ret { tmps := tmps, defers := [dfC E, dfD E Rb D A] } w := by
  refine leaves_cons (f := 25) (args := #[.pointer (some ⟨E, 0, none⟩)]) (by simp) (by simp [go_sem]) ?_
  refine (caught_ok E w).mono ?_
  rintro e u' w1 ⟨rfl, rfl, rfl⟩
  show Leaves _ _ _ _ _ (settle .returning) w1
  rw [show settle .returning = .returning from rfl]
  refine leaves_cons (f := 24) (args := #[.pointer (some ⟨E, 0, none⟩), .pointer (some ⟨Rb, 0, none⟩), .pointer (some ⟨D, 0, none⟩), .pointer (some ⟨A, 0, none⟩)]) (by simp) (by simp [go_sem]) ?_
  refine (doc1_ok E Rb D A _ w1 hE).mono ?_
  rintro e u'' w2 ⟨rfl, rfl, rfl⟩
  exact hR
end Go.Proofs.YtgephneppgcnlaaDoor
