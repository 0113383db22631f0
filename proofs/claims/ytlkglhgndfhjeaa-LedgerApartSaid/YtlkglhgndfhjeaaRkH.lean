/- The reference's disk (columbaryref01): New. -/
import Derived.Test.YtlkglhgndfhjeaaRkG
namespace Go.Proofs.Ytlkglhgndfhjeaa
open Go Go.RowKit
set_option linter.unusedVariables false
set_option linter.unusedSimpArgs false
set_option maxRecDepth 100000

theorem infoStrR : (Try.prog.info? 9).map (fun i => (i.zero, i.size, i.bytes)) = some (some (.string ByteArray.empty), 1, 16) := by kernel_rfl
/-- One more durable block. -/
theorem RkAt.addSure {F G : Nat → Prop} {w w' : World} {b : Nat} {st : Dk} (h : RkAt w F b st) {aS : Option Addr} {cS : Nat} (hc : w.cell? ⟨b, 0, none⟩ = some (.slice aS st.sure.length cS)) (ho : Only (fun k => (Value.slice aS st.sure.length cS).ownBlock = some k) w w') {v' : Value} {p : List UInt8} (hp : p.length = 64) (hl : st.sure.length < 4096)
    (hown : w'.ownsRow 0 9 1 v' (st.sure.length + 1) (st.sure.map strR ++ [strR p])) (hG : ∀ k, F k → G k) (hn : ∀ k, v'.ownBlock = some k → (Value.slice aS st.sure.length cS).ownBlock = some k ∨ w.heap.size ≤ k) (hN : ∀ k, w.heap.size ≤ k → G k) :
    RkAt (w'.setCell ⟨b, 0, none⟩ v') G b { st with sure := st.sure ++ [p] } := by
  obtain ⟨h1, h2, h2a, h2b, vS, vL, h3, h4, h5, h6, h7, h8⟩ := h
  have e : vS = .slice aS st.sure.length cS := by simpa [World.cell?, h3] using hc
  subst e
  have hlt := (Array.getElem?_eq_some_iff.1 h3).1
  have h3' : w'.heap[b]? = _ := (ho.block b hlt (fun e => (h6 b e).1 rfl)).trans h3
  have h5' := own_only' h5 ho (fun k hk e => h8 k e hk)
  have hnb : ∀ k, v'.ownBlock = some k → k ≠ b := fun k hk e => by
    rcases hn k hk with h | h
    · exact (h6 k h).1 e
    · omega
  have o := (Only.refl (fun k => k = b) w').setCell (p := ⟨b, 0, none⟩) (.inl rfl) v'
  refine ⟨hG _ h1, by simp; omega, fun r hr => ?_, h2b, v', vL, heap_set (o := 0) h3' _, ?_, own_only' h5' o (fun k hk e => (h7 k hk).1 e), fun k hk => ⟨hnb k hk, ?_⟩, fun k hk => ⟨(h7 k hk).1, hG _ (h7 k hk).2⟩, fun k hk e => ?_⟩
  · rcases List.mem_append.1 hr with h | h
    · exact h2a r h
    · simp at h; subst h; exact hp
  · have hx := own_only' hown o (fun k hk e => hnb k hk e)
    show World.ownsRow _ 0 _ 1 v' (st.sure ++ [p]).length ((st.sure ++ [p]).map strR)
    rw [List.length_append, List.length_singleton, List.map_append]
    simpa using hx
  · rcases hn k hk with h | h
    · exact hG _ (h6 k h).2
    · exact hN k h
  · rcases hn k hk with h | h
    · exact h8 k h e
    · have := ((own_form h5).choose_spec.choose_spec.2.2.2 k e).2; omega
theorem RkAt.sureOwn {F : Nat → Prop} {w : World} {b : Nat} {st : Dk} (h : RkAt w F b st) {v : Value} (hc : w.cell? ⟨b, 0, none⟩ = some v) : ∀ k, v.ownBlock = some k → k ≠ b ∧ F k := by
  obtain ⟨h1, h2, h2a, h2b, vS, vL, h3, h4, h5, h6, h7, h8⟩ := h
  have e : vS = v := by simpa [World.cell?, h3] using hc
  subst e; exact h6
theorem fresh_succ (k : Nat) : ({ fresh k with sure := (fresh k).sure ++ [pad64 []] } : Dk) = fresh (k + 1) := by
  unfold fresh
  have e : pad64 [] = zeros64 := by simp [pad64, zeros64]
  simp only [Dk.mk.injEq, and_true]
  rw [e, List.replicate_succ']
theorem rkNew_bad (n : Int) (w : World) (h : n < 1 ∨ 4096 < n) :
    Calls Try.prog 26 #[.int .i64 n] w fun e w' => e = .returned (.tuple #[.pointer none, .int .i64 1]) ∧ w = w' := by
  rcases h with h | h
  · go_enter Try.func26, Try.ntmps26
    go_wp2_with fail
    go_ret2
    exact ⟨rfl, rfl⟩
  · have h1 : ¬ n < 1 := by omega
    go_enter Try.func26, Try.ntmps26
    go_wp2_with fail
    go_ret2
    exact ⟨rfl, rfl⟩
set_option maxHeartbeats 4000000 in
theorem rkNew (n : Nat) (w : World) (hn1 : 1 ≤ n) (hn2 : n ≤ 4096) :
    Calls Try.prog 26 #[.int .i64 (n : Int)] w fun e w' => e = .returned (.tuple #[.pointer (some ⟨w.heap.size, 0, none⟩), .int .i64 0]) ∧ RkAt w' (fun k => w.heap.size ≤ k) w.heap.size (fresh n) ∧ Only (fun _ => False) w w' := by
  have hi1 : (1 : Int) ≤ (n : Int) := by omega
  have hi2 : (n : Int) ≤ 4096 := by omega
  have t1 : decide ((n : Int) < 1) = false := by simp; omega
  have t2 : decide ((4096 : Int) < (n : Int)) = false := by simp; omega
  have h0 : RkAt (w.alloc (.cells #[.slice none 0 0, .slice none 0 0, .int .i64 0, .int .i64 0, .bool false] 50)) (fun k => w.heap.size ≤ k) w.heap.size (fresh 0) :=
    ⟨Nat.le_refl _, by simp [fresh], fun r hr => (by simp [fresh] at hr), fun p hp => (by simp [fresh] at hp), _, _, heap_new w _, by simpa [fresh] using own_nil _ _ _ _, by simpa [fresh] using own_nil _ _ _ _, fun k hk => (by cases hk), fun k hk => (by cases hk), fun k hk => (by cases hk)⟩
  have o0 := (Only.refl (fun _ => False) w).alloc (.cells #[.slice none 0 0, .slice none 0 0, .int .i64 0, .int .i64 0, .bool false] 50)
  have hfull : ∀ w', Calls Try.prog 49 #[.string ⟨#[]⟩] w' fun e w2 => e = .returned (.string ⟨(pad64 []).toArray⟩) ∧ Only (fun _ => False) w' w2 := fun w' => rkFull [] w' (by decide)
  have HFULL := Lib.hid hfull; have H0 := Lib.hid h0; have O0 := Lib.hid o0; clear hfull h0 o0
  go_enter Try.func26, Try.ntmps26
  go_wp2_with fail
  go_loopw [5] (fun v wr => ∃ k : Nat, v = .int .i64 (k : Int) ∧ k ≤ n ∧ Hid (RkAt wr (fun q => w.heap.size ≤ q) w.heap.size (fresh k)) ∧ Hid (Only (fun _ => False) w wr)) (fun v _ => n - (intOf v).toNat)
  case atStart => exact ⟨0, by simp, Nat.zero_le _, H0, O0⟩
  case round =>
    obtain ⟨k, rfl, hk, HD, HO⟩ := hrel
    by_cases hlt : k < n
    · have e1 : decide ((k : Int) < (n : Int)) = true := by simpa using hlt
      obtain ⟨aS, aL, cS, cL, c0, c1, c2, c3, c4, fz, hS, hL⟩ := HD.out.cells
      have hsl : (fresh k).sure.length = k := by simp [fresh]
      have hltb := HD.out.lt
      have hcell : ∀ w', Only (fun _ => False) wr w' → w'.cell? ⟨w.heap.size, 0, none⟩ = some (.slice aS (fresh k).sure.length cS) ∧ w'.ownsRow 0 9 1 (.slice aS (fresh k).sure.length cS) (fresh k).sure.length ((fresh k).sure.map strR) := fun w' o =>
        ⟨by rw [cell_only o (a := ⟨w.heap.size, 0, none⟩) hltb (fun h => h)]; exact c0, own_only' hS o (fun _ _ h => h)⟩
      have hLB : ∀ q, (Value.slice aS (fresh k).sure.length cS).ownBlock = some q → q < wr.heap.size := fun q hq => ((own_form hS).choose_spec.choose_spec.2.2.2 q hq).2
      have HC := Lib.hid hcell; have HLB := Lib.hid hLB; have HSL := Lib.hid hsl; have HLTB := Lib.hid hltb; have C0 := Lib.hid c0; have FZ := Lib.hid fz
      clear hcell hLB hsl hS hL c0 c1 c2 c3 c4 fz hltb
      go_upto_region 7 with (fail)
      refine wp_region_stepsM 10 (by kernel_rfl) rfl (by kernel_rfl) [some 19, some 20, some 21, some 22, some 23, some 24, some 25, some 26, some 27, some 28] rfl rfl 7 11 (fun q => (Value.slice aS (fresh k).sure.length cS).ownBlock = some q) (fun _ => False) [8, 9, 10] (by kernel_rfl) [1, 2, 3, 4, 5, 6] (by kernel_rfl) (by decide) (by decide) (.inl (by decide)) [(fun v _ => v = (.pointer (some ⟨w.heap.size, 0, none⟩))), (fun v _ => v = (.pointer (some ⟨w.heap.size, 0, none⟩))), (fun v _ => v = (.pointer (some ⟨w.heap.size, 0, none⟩))), (fun v _ => v = (.pointer (some ⟨w.heap.size, 0, none⟩))), (fun v _ => v = (.slice aS (fresh k).sure.length cS)), (fun v _ => v = (.string ⟨(pad64 []).toArray⟩)), (fun v w1 => ∃ g, v = .slice (some ⟨g, 0, none⟩) 1 1 ∧ wr.heap.size ≤ g ∧ w1.heap[g]? = some (.cells #[.string ⟨(pad64 []).toArray⟩] 9 (0, 0))), (fun v w1 => w1.ownsRow 0 9 1 v ((fresh k).sure.length + 1) ((fresh k).sure.map strR ++ [strR (pad64 [])]) ∧ ∀ q, v.ownBlock = some q → (Value.slice aS (fresh k).sure.length cS).ownBlock = some q ∨ wr.heap.size ≤ q), (fun v _ => v = (.pointer (some ⟨w.heap.size, 0, none⟩))), (fun v _ => v = (.pointer (some ⟨w.heap.size, 0, none⟩)))] rfl ⟨?_, ?_, ?_, ?_, ?_, ?_, ?_, ?_, ?_, ?_, trivial⟩ _ rfl ⟨?_, ?_, ?_, ?_, ?_, ?_, ?_, ?_, ?_, ?_, trivial⟩ ?_
      · exact Stable.is _ _
      · exact Stable.is _ _
      · exact Stable.is _ _
      · exact Stable.is _ _
      · exact Stable.is _ _
      · exact Stable.is _ _
      · intro v w1 w2 h ho
        have ho : Only (fun q => (fun q => (Value.slice aS (fresh k).sure.length cS).ownBlock = some q) q ∨ (fun _ => False) q) w1 w2 := ho
        exact (by obtain ⟨g, e, q1, q2⟩ := h; exact ⟨g, e, q1, by rw [ho.block _ (Array.getElem?_eq_some_iff.1 q2).1 (fun h => by rcases h with h | h; (have := HLB.out g h; omega); exact h)]; exact q2⟩)
      · intro v w1 w2 h ho
        have ho : Only (fun _ => False) w1 w2 := ho
        exact (by exact ⟨own_only' h.1 ho (fun _ _ h => h), h.2⟩)
      · exact Stable.is _ _
      · exact Stable.is _ _
      · intro x wx ox hN TT HTT
        have ox : Only (fun q => (fun q => (Value.slice aS (fresh k).sure.length cS).ownBlock = some q) q ∨ (fun _ => False) q) _ wx := ox
        clear hN
        unfold StepTo
        simp only [putAll, Act.put, List.setIfInBounds_toArray, List.set_cons_succ, List.set_cons_zero]
        go_wp2_with fail
        exact ⟨rfl, _, rfl, HTT.out _ _ (rfl) (Only.refl _ _)⟩
      · intro x wx ox hN TT HTT
        have ox : Only (fun _ => False) _ wx := ox
        clear hN
        unfold StepTo
        simp only [putAll, Act.put, List.setIfInBounds_toArray, List.set_cons_succ, List.set_cons_zero]
        go_wp2_with fail
        exact ⟨rfl, _, rfl, HTT.out _ _ (rfl) (Only.refl _ _)⟩
      · intro x wx ox hN TT HTT
        have ox : Only (fun _ => False) _ wx := ox
        have r20 : x 1 = (.pointer (some ⟨w.heap.size, 0, none⟩)) := hN.1 rfl
        clear hN
        unfold StepTo
        simp only [putAll, Act.put, List.setIfInBounds_toArray, List.set_cons_succ, List.set_cons_zero, r20]
        clear r20
        go_wp2_with fail
        exact ⟨rfl, _, rfl, HTT.out _ _ (rfl) (Only.refl _ _)⟩
      · intro x wx ox hN TT HTT
        have ox : Only (fun _ => False) _ wx := ox
        have r21 : x 2 = (.pointer (some ⟨w.heap.size, 0, none⟩)) := hN.1 rfl
        clear hN
        unfold StepTo
        simp only [putAll, Act.put, List.setIfInBounds_toArray, List.set_cons_succ, List.set_cons_zero, r21]
        clear r21
        go_wp2_with fail
        exact ⟨rfl, _, rfl, HTT.out _ _ (rfl) (Only.refl _ _)⟩
      · intro x wx ox hN TT HTT
        have ox : Only (fun _ => False) _ wx := ox
        have r22 : x 3 = (.pointer (some ⟨w.heap.size, 0, none⟩)) := hN.1 rfl
        clear hN
        unfold StepTo
        simp only [putAll, Act.put, List.setIfInBounds_toArray, List.set_cons_succ, List.set_cons_zero, r22]
        clear r22
        obtain ⟨g1, g2⟩ := HC.out wx (((Only.refl _ wr).drew).trans ox)
        go_wp2_with fail
        exact ⟨rfl, _, rfl, HTT.out _ _ (rfl) (Only.refl _ _)⟩
      · intro x wx ox hN TT HTT
        have ox : Only (fun _ => False) _ wx := ox
        clear hN
        unfold StepTo
        simp only [putAll, Act.put, List.setIfInBounds_toArray, List.set_cons_succ, List.set_cons_zero]
        have hc := HFULL.out wx
        have HCC := Lib.hid hc; clear hc
        go_wp2_with fail
        refine HCC.out.mono ?_
        rintro e w6 ⟨rfl, o6⟩
        go_wp2_with fail
        exact ⟨rfl, _, rfl, HTT.out _ _ (rfl) (o6)⟩
      · intro x wx ox hN TT HTT
        have ox : Only (fun _ => False) _ wx := ox
        have r24 : x 5 = (.string ⟨(pad64 []).toArray⟩) := hN.1 rfl
        clear hN
        unfold StepTo
        simp only [putAll, Act.put, List.setIfInBounds_toArray, List.set_cons_succ, List.set_cons_zero, r24]
        clear r24
        have hn := heap_new wx (.cells #[.string ⟨(pad64 []).toArray⟩] 9)
        have on := (Only.refl (fun _ => False) wx).alloc (.cells #[.string ⟨(pad64 []).toArray⟩] 9)
        have hsz : wr.heap.size ≤ wx.heap.size := ox.size
        have HN := Lib.hid hn; have ON := Lib.hid on; have HSZ := Lib.hid hsz; clear hn on hsz
        go_wp2_with fail
        exact ⟨rfl, _, rfl, HTT.out _ _ (⟨wx.heap.size, rfl, HSZ.out, HN.out⟩) (ON.out)⟩
      · intro x wx ox hN TT HTT
        have ox : Only (fun _ => False) _ wx := ox
        have r23 : x 4 = (.slice aS (fresh k).sure.length cS) := hN.1 rfl
        have r25 : (fun (v : Value) (w1 : World) => ∃ g, v = .slice (some ⟨g, 0, none⟩) 1 1 ∧ wr.heap.size ≤ g ∧ w1.heap[g]? = some (.cells #[.string ⟨(pad64 []).toArray⟩] 9 (0, 0))) (x 6) wx := hN.2.1 rfl
        have r24 : x 5 = (.string ⟨(pad64 []).toArray⟩) := hN.2.2.1 rfl
        clear hN
        unfold StepTo
        simp only [putAll, Act.put, List.setIfInBounds_toArray, List.set_cons_succ, List.set_cons_zero, r23, r24]
        clear r23 r24
        obtain ⟨g, e1, e2, e3⟩ := r25
        simp only [e1]
        have hys : ∀ j' u, [strR (pad64 [])][j']? = some u → wx.cell? ((⟨g, 0, none⟩ : Addr).add j') = some u := fun j' u hu => by rw [addr_add]; exact range_of_block (cs := [strR (pad64 [])]) e3 j' u hu
        have hox := (HC.out wx (((Only.refl _ wr).drew).trans ox)).2
        have hsz : wr.heap.size ≤ wx.heap.size := ox.size
        have hwl : (fresh k).sure.length ≤ 1000000000 := by have := HSL.out; omega
        have HOX := Lib.hid hox; have HYS := Lib.hid hys; have HSZ := Lib.hid hsz; have HWL := Lib.hid hwl; clear hox hys hsz hwl e1 e2 e3
        go_wp2_with ((refine wpList_append_own2 (o := ⟨some 26, _, _, _, _, _⟩) rfl (.tmp 23) (.tmp 25) 40 9 (by rfl) Try.underlying40 infoStrR rfl (by decide) 0 (.slice aS (fresh k).sure.length cS) (fresh k).sure.length 1 1 ((fresh k).sure.map strR) [strR (pad64 [])] ⟨g, 0, none⟩ (by rfl) (by rfl) HOX.out (by rfl) HYS.out (by intro u hu; simp [strR] at hu; subst hu; rfl) (by have := HWL.out; unfold maxLen; omega) (by have := HWL.out; omega) (Nat.zero_le _) ?_; intro v' w9 q1 q2 q3))
        exact ⟨rfl, _, rfl, HTT.out _ _ (⟨q1, fun q hq => (q3 q hq).imp _root_.id (fun h => Nat.le_trans HSZ.out h)⟩) (q2)⟩
      · intro x wx ox hN TT HTT
        have ox : Only (fun q => (fun q => (Value.slice aS (fresh k).sure.length cS).ownBlock = some q) q ∨ (fun _ => False) q) _ wx := ox
        have r19 : x 0 = (.pointer (some ⟨w.heap.size, 0, none⟩)) := hN.1 rfl
        have r20 : x 1 = (.pointer (some ⟨w.heap.size, 0, none⟩)) := hN.2.2.1 rfl
        have r21 : x 2 = (.pointer (some ⟨w.heap.size, 0, none⟩)) := hN.2.2.2.1 rfl
        have r22 : x 3 = (.pointer (some ⟨w.heap.size, 0, none⟩)) := hN.2.2.2.2.1 rfl
        have r23 : x 4 = (.slice aS (fresh k).sure.length cS) := hN.2.2.2.2.2.1 rfl
        have r24 : x 5 = (.string ⟨(pad64 []).toArray⟩) := hN.2.2.2.2.2.2.1 rfl
        have r25 : (fun (v : Value) (w1 : World) => ∃ g, v = .slice (some ⟨g, 0, none⟩) 1 1 ∧ wr.heap.size ≤ g ∧ w1.heap[g]? = some (.cells #[.string ⟨(pad64 []).toArray⟩] 9 (0, 0))) (x 6) wx := hN.2.2.2.2.2.2.2.1 rfl
        have r26 : (fun (v : Value) (w1 : World) => w1.ownsRow 0 9 1 v ((fresh k).sure.length + 1) ((fresh k).sure.map strR ++ [strR (pad64 [])]) ∧ ∀ q, v.ownBlock = some q → (Value.slice aS (fresh k).sure.length cS).ownBlock = some q ∨ wr.heap.size ≤ q) (x 7) wx := hN.2.2.2.2.2.2.2.2.1 rfl
        clear hN
        unfold StepTo
        simp only [putAll, Act.put, List.setIfInBounds_toArray, List.set_cons_succ, List.set_cons_zero, r19, r20, r21, r22, r23, r24]
        clear r19 r20 r21 r22 r23 r24
        go_wp2_with fail
        exact ⟨rfl, _, rfl, HTT.out _ _ (rfl) (Only.refl _ _)⟩
      · intro x wx ox hN TT HTT
        have ox : Only (fun q => (fun q => (Value.slice aS (fresh k).sure.length cS).ownBlock = some q) q ∨ (fun _ => False) q) _ wx := ox
        have r27 : x 8 = (.pointer (some ⟨w.heap.size, 0, none⟩)) := hN.1 rfl
        have r19 : x 0 = (.pointer (some ⟨w.heap.size, 0, none⟩)) := hN.2.1 rfl
        have r20 : x 1 = (.pointer (some ⟨w.heap.size, 0, none⟩)) := hN.2.2.1 rfl
        have r21 : x 2 = (.pointer (some ⟨w.heap.size, 0, none⟩)) := hN.2.2.2.1 rfl
        have r22 : x 3 = (.pointer (some ⟨w.heap.size, 0, none⟩)) := hN.2.2.2.2.1 rfl
        have r23 : x 4 = (.slice aS (fresh k).sure.length cS) := hN.2.2.2.2.2.1 rfl
        have r24 : x 5 = (.string ⟨(pad64 []).toArray⟩) := hN.2.2.2.2.2.2.1 rfl
        have r25 : (fun (v : Value) (w1 : World) => ∃ g, v = .slice (some ⟨g, 0, none⟩) 1 1 ∧ wr.heap.size ≤ g ∧ w1.heap[g]? = some (.cells #[.string ⟨(pad64 []).toArray⟩] 9 (0, 0))) (x 6) wx := hN.2.2.2.2.2.2.2.1 rfl
        have r26 : (fun (v : Value) (w1 : World) => w1.ownsRow 0 9 1 v ((fresh k).sure.length + 1) ((fresh k).sure.map strR ++ [strR (pad64 [])]) ∧ ∀ q, v.ownBlock = some q → (Value.slice aS (fresh k).sure.length cS).ownBlock = some q ∨ wr.heap.size ≤ q) (x 7) wx := hN.2.2.2.2.2.2.2.2.1 rfl
        clear hN
        unfold StepTo
        simp only [putAll, Act.put, List.setIfInBounds_toArray, List.set_cons_succ, List.set_cons_zero, r27, r19, r20, r21, r22, r23, r24]
        clear r27 r19 r20 r21 r22 r23 r24
        go_wp2_with fail
        exact ⟨rfl, _, rfl, HTT.out _ _ (rfl) (Only.refl _ _)⟩
      intro xa wxa oxa hN
      have oxa : Only (fun q => (fun q => (Value.slice aS (fresh k).sure.length cS).ownBlock = some q) q ∨ (fun _ => False) q) _ wxa := oxa
      have r19 : xa 0 = (.pointer (some ⟨w.heap.size, 0, none⟩)) := hN.1
      have r20 : xa 1 = (.pointer (some ⟨w.heap.size, 0, none⟩)) := hN.2.1
      have r21 : xa 2 = (.pointer (some ⟨w.heap.size, 0, none⟩)) := hN.2.2.1
      have r22 : xa 3 = (.pointer (some ⟨w.heap.size, 0, none⟩)) := hN.2.2.2.1
      have r23 : xa 4 = (.slice aS (fresh k).sure.length cS) := hN.2.2.2.2.1
      have r24 : xa 5 = (.string ⟨(pad64 []).toArray⟩) := hN.2.2.2.2.2.1
      have r25 : (fun (v : Value) (w1 : World) => ∃ g, v = .slice (some ⟨g, 0, none⟩) 1 1 ∧ wr.heap.size ≤ g ∧ w1.heap[g]? = some (.cells #[.string ⟨(pad64 []).toArray⟩] 9 (0, 0))) (xa 6) wxa := hN.2.2.2.2.2.2.1
      have r26 : (fun (v : Value) (w1 : World) => w1.ownsRow 0 9 1 v ((fresh k).sure.length + 1) ((fresh k).sure.map strR ++ [strR (pad64 [])]) ∧ ∀ q, v.ownBlock = some q → (Value.slice aS (fresh k).sure.length cS).ownBlock = some q ∨ wr.heap.size ≤ q) (xa 7) wxa := hN.2.2.2.2.2.2.2.1
      have r27 : xa 8 = (.pointer (some ⟨w.heap.size, 0, none⟩)) := hN.2.2.2.2.2.2.2.2.1
      have r28 : xa 9 = (.pointer (some ⟨w.heap.size, 0, none⟩)) := hN.2.2.2.2.2.2.2.2.2.1
      clear hN
      simp only [putAll, Act.put, List.setIfInBounds_toArray, List.set_cons_succ, List.set_cons_zero, r19, r20, r21, r22, r23, r24, r27, r28]
      clear r19 r20 r21 r22 r23 r24 r27 r28
      obtain ⟨q1, q2⟩ := r26
      obtain ⟨aL', cL', eL', gL1', gL2', gL3'⟩ := own_form q1
      rw [eL'] at q1 q2 ⊢
      have oa : Only (fun q => (Value.slice aS (fresh k).sure.length cS).ownBlock = some q) wr wxa := ((Only.refl _ wr).drew).trans (oxa.mono (fun q _ h => h.resolve_right (fun h => h)))
      have hset := RkAt.addSure (G := fun q => w.heap.size ≤ q) (p := pad64 []) HD.out C0.out oa (by decide) (by rw [HSL.out]; omega) q1 (fun k h => h) q2 (fun k h => Nat.le_trans HO.out.size h)
      rw [fresh_succ] at hset
      have hwne := HD.out.sureOwn C0.out
      have hne : ¬ (Value.slice aS (fresh k).sure.length cS).ownBlock = some w.heap.size := fun h => (hwne _ h).1 rfl
      have y1 : wxa.cell? ⟨w.heap.size, 0, none⟩ = some (.slice aS (fresh k).sure.length cS) := by rw [cell_only oa (a := ⟨w.heap.size, 0, none⟩) HLTB.out hne]; exact C0.out
      have yz : wxa.frozen? ⟨w.heap.size, 0, none⟩ = false := by rw [frozen_only oa (a := ⟨w.heap.size, 0, none⟩) HLTB.out hne]; exact FZ.out 0
      have oS : Only (fun _ => False) w (wxa.setCell ⟨w.heap.size, 0, none⟩ (.slice aL' ((fresh k).sure.length + 1) cL')) :=
        (HO.out.trans' oa (fun q hq h => by have := (hwne q h).2; omega)).setCell (p := ⟨w.heap.size, 0, none⟩) (.inr (Nat.le_refl _)) _
      have HST := Lib.hid hset; have OS := Lib.hid oS; clear hset oS hwne hne oa q1 q2 gL3' eL'
      go_wp2_with fail
      go_roundw
      case rel => exact ⟨k + 1, by simp [go_sem], by omega, HST, OS⟩
      case measure => simp [intOf]; omega
    · have e1 : decide ((k : Int) < (n : Int)) = false := by simp; omega
      obtain rfl : k = n := by omega
      go_wp2_with fail
      go_ret2
      exact ⟨rfl, HD.out, HO.out⟩
end Go.Proofs.Ytlkglhgndfhjeaa
