/- The reference of the ledger (columbaryref02): With. -/
import Derived.Test.YtlkglhgndfhjeaaGrg
import Derived.Deep.Cut
namespace Go.Proofs.Ytlkglhgndfhjeaa
open Go Go.RowKit
set_option linter.unusedVariables false
set_option linter.unusedSimpArgs false
set_option maxRecDepth 100000

theorem run_append_none (c : Nat) (ty : TypeId) (w : World) : (Builtin.append_ #[40, 40] ty #[.slice none 0 0, .slice none 0 c]).run Try.prog w = .ok (.slice none 0 0) w := by
  obtain ⟨i0, hi, hz0, hz1, hz2⟩ := info_parts infoStrG
  simp [Builtin.append_, run_underlying Try.underlying40, sizeOf, typeInfo, hi, Builtin.lenOf, Builtin.firstCells]
theorem wpList_append_none {w : World} {ops : Array Oper} {rest : List Oper} {o : Oper} {a : Act} {Q : Exit → Act → World → Prop} (hgd : o.guard = none) (s x : Operand)
    (ho : o.op = .call { callee := .builtin .append, args := #[s, x], argTypes := #[40, 40] }) (c : Nat) (hs : a.eval s = .slice none 0 0) (hx : a.eval x = .slice none 0 c)
    (h : wpList Try.prog ops Q rest (a.put o.dst (.slice none 0 0)) w) : wpList Try.prog ops Q (o :: rest) a w := by
  refine wpList_plain hgd fun K hK => ?_
  have hr := run_append_none c o.type w
  unfold Oper.wp execOp
  simp only [ho, resolve, invoke, builtin, Sem.run_bind, Sem.run_pure, Result.andThen_ok, List.map_toArray, List.map_cons, List.map_nil, hs, hx, hr]
  exact hK _ _ h
set_option maxHeartbeats 4000000 in
theorem with_any (G : Nat → Prop) (kv pv : Value) (s p : List UInt8) (rs : List (List UInt8)) (w : World) (h : KeptV w G kv s rs) (hp : Bytes w pv p) (hl : rs.length ≤ 1000000) :
    Calls Try.prog 43 #[kv, pv] w fun e w' => ∃ v, e = .returned v ∧ KeptV w' (fun q => w.heap.size ≤ q) v s (rs ++ [p]) ∧ Only (fun _ => False) w w' := by
  obtain ⟨a, c, rfl, h1, h2, h3⟩ := h
  obtain ⟨aP, cP, rfl, hP1, hP2, hP3⟩ := id hp
  clear hP3
  have hn2 := heap_old (heap_new w (.cells #[strR s, .slice a rs.length c] 68)) (.cells #[.string ⟨#[]⟩, .slice none 0 0] 68)
  have hn4 := heap_new (w.alloc (.cells #[strR s, .slice a rs.length c] 68)) (.cells #[.string ⟨#[]⟩, .slice none 0 0] 68)
  have ho := ((Only.refl (fun _ => False) w).alloc (.cells #[strR s, .slice a rs.length c] 68)).alloc (.cells #[.string ⟨#[]⟩, .slice none 0 0] 68)
  have hsz : (w.alloc (.cells #[strR s, .slice a rs.length c] 68)).heap.size = w.heap.size + 1 := by simp
  have hsz' : ((w.alloc (.cells #[strR s, .slice a rs.length c] 68)).alloc (.cells #[.string ⟨#[]⟩, .slice none 0 0] 68)).heap.size = w.heap.size + 2 := by simp
  rw [hsz] at hn4
  obtain ⟨W, hW⟩ : ∃ W, W = (w.alloc (.cells #[strR s, .slice a rs.length c] 68)).alloc (.cells #[.string ⟨#[]⟩, .slice none 0 0] 68) := ⟨_, rfl⟩
  rw [← hW] at hn2 hn4 ho hsz'
  obtain ⟨b2, hb2⟩ : ∃ b2, b2 = w.heap.size := ⟨_, rfl⟩
  obtain ⟨b4, hb4⟩ : ∃ b4, b4 = w.heap.size + 1 := ⟨_, rfl⟩
  rw [← hb2] at hn2
  rw [← hb4] at hn4
  have H3 := Lib.hid (h3.only ho (fun _ _ h => h)); have HP := Lib.hid (hp.still ho); have HO := Lib.hid ho; have HN2 := Lib.hid hn2; have HN4 := Lib.hid hn4; have HW := Lib.hid hW; have HB2 := Lib.hid hb2; have HB4 := Lib.hid hb4; have HSZ := Lib.hid hsz'
  clear hn2 hn4 ho hsz hsz' h3 hp hW
  unfold strR at *
  go_enter Try.func43, Try.ntmps43
  go_upto_region 2 with (fail)
  rw [← HW.out, ← hb4, ← hb2]
  clear hb2 hb4
  have hcell : W.cell? ⟨b2, 1, none⟩ = some (.slice a rs.length c) := (cell2 HN2.out).2.1
  go_cut [5] from 6 (fun v w' => ∃ a5 c5, v = .slice a5 rs.length c5 ∧ Hid (w'.ownsRow (w.heap.size + 2) 9 1 (.slice a5 rs.length c5) rs.length (rs.map strR)) ∧ Hid (Only (fun _ => False) W w'))
  case first =>
    cases a with
    | none =>
      have hz : rs = [] := by
        rcases Nat.eq_zero_or_pos rs.length with h0 | h0
        · exact List.eq_nil_of_length_eq_zero h0
        · obtain ⟨_, _, e, _⟩ := H3.out h0; cases e
      subst hz
      go_wp2_with ((refine wpList_append_none (o := ⟨some 9, _, _, _, _, _⟩) rfl (.tmp 6) (.tmp 8) (by rfl) c (by rfl) (by rfl) ?_))
      go_meet
      case rel => exact ⟨none, 0, rfl, Lib.hid (own_nil _ _ _ _), Lib.hid (Only.refl _ _)⟩
    | some ad =>
      have hys : ∀ j u, (rs.map strR)[j]? = some u → W.cell? (ad.add j) = some u := fun j u hu => by
        have hj : j < rs.length := by have := (List.getElem?_eq_some_iff.1 hu).1; simpa using this
        obtain ⟨b, off, e, _, hc⟩ := H3.out.cell hj
        cases e
        rw [addr_add, hc]
        have e2 : (rs.map strR)[j]? = some (strR rs[j]) := by simp [hj]
        rw [e2] at hu; exact hu
      have HYS := Lib.hid hys; have HLL := Lib.hid hl
      clear hys hl
      go_wp2_with ((refine wpList_append_own2 (o := ⟨some 9, _, _, _, _, _⟩) rfl (.tmp 6) (.tmp 8) 40 9 (by rfl) Try.underlying40 infoStrG rfl (by decide) (w.heap.size + 2) (.slice none 0 0) 0 rs.length c [] (rs.map strR) ad (by rfl) (by rfl) (own_nil _ _ _ _) (by simp) HYS.out (by intro u hu; simp [strR] at hu; obtain ⟨q, _, rfl⟩ := hu; rfl) (by have := HLL.out; unfold maxLen; omega) (by have := HLL.out; omega) (by have := HSZ.out; omega) ?_; intro v' w9 q1 q2 q3; have hex := own_form q1; obtain ⟨a', c', e', g1, g2, g3⟩ := hex; simp only [Nat.zero_add, List.nil_append] at e' q1; rw [e'] at q1 ⊢))
      have HQ1 := Lib.hid q1; have HQ2 := Lib.hid (q2.mono (T := fun _ => False) (fun k _ hk => by cases hk))
      clear q1 q2 q3 e' g3
      go_meet
      case rel => exact ⟨_, _, rfl, HQ1, HQ2⟩
  case rest =>
    obtain ⟨a5, c5, rfl, HOW, HO5⟩ := hcut
    have hlb2 := (cell2 HN2.out).2.2.2
    have hLB : ∀ q, (Value.slice a5 rs.length c5).ownBlock = some q → w.heap.size + 2 ≤ q ∧ q < wc.heap.size := fun q hq => (own_form HOW.out).choose_spec.choose_spec.2.2.2 q hq
    have hfa : ∀ w', Only (fun _ => False) wc w' → w'.cell? ⟨b2, 0, none⟩ = some (.string ⟨s.toArray⟩) ∧ Bytes w' (.slice aP p.length cP) p ∧ w'.ownsRow (w.heap.size + 2) 9 1 (.slice a5 rs.length c5) rs.length (rs.map strR) := fun w' o =>
      ⟨by rw [cell_only (HO5.out.trans o) (a := ⟨b2, 0, none⟩) hlb2 (fun h => h)]; exact (cell2 HN2.out).1, HP.out.still (HO5.out.trans o), own_only' HOW.out o (fun _ _ h => h)⟩
    have HFA := Lib.hid hfa; have HLB := Lib.hid hLB; have HLL := Lib.hid hl
    have HC2 : Hid (wc.cell? ⟨b2, 0, none⟩ = some (.string ⟨s.toArray⟩) ∧ b2 < wc.heap.size) := Lib.hid ⟨by rw [cell_only HO5.out (a := ⟨b2, 0, none⟩) hlb2 (fun h => h)]; exact (cell2 HN2.out).1, Nat.lt_of_lt_of_le hlb2 HO5.out.size⟩
    clear hfa hLB hl hcell hlb2
    go_wp2_with fail
    refine wp_region_stepsM 8 (by kernel_rfl) rfl (by kernel_rfl) [some 10, some 11, some 12, some 13, some 14, some 15, some 16, some 17] rfl rfl 6 9 (fun q => (Value.slice a5 rs.length c5).ownBlock = some q) (fun _ => False) [7, 8] (by kernel_rfl) [2, 3, 4, 5] (by kernel_rfl) (by decide) (by decide) (.inl (by decide)) [(fun v _ => v = (.pointer (some ⟨b2, 0, none⟩))), (fun v _ => v = (.string ⟨s.toArray⟩)), (fun v _ => v = (.slice a5 rs.length c5)), (fun v _ => v = (.slice aP p.length cP)), (fun v _ => v = (.string ⟨p.toArray⟩)), (fun v w1 => ∃ g, v = .slice (some ⟨g, 0, none⟩) 1 1 ∧ wc.heap.size ≤ g ∧ w1.heap[g]? = some (.cells #[.string ⟨p.toArray⟩] 9 (0, 0))), (fun v w1 => w1.ownsRow (w.heap.size + 2) 9 1 v (rs.length + 1) (rs.map strR ++ [strR p]) ∧ ∀ q, v.ownBlock = some q → (Value.slice a5 rs.length c5).ownBlock = some q ∨ wc.heap.size ≤ q), (fun v w1 => ∃ a' c', v = .agg #[.string ⟨s.toArray⟩, .slice a' (rs.length + 1) c'] ∧ w1.ownsRow (w.heap.size + 2) 9 1 (.slice a' (rs.length + 1) c') (rs.length + 1) (rs.map strR ++ [strR p]))] rfl ⟨?_, ?_, ?_, ?_, ?_, ?_, ?_, ?_, trivial⟩ _ rfl ⟨?_, ?_, ?_, ?_, ?_, ?_, ?_, ?_, trivial⟩ ?_
    · exact Stable.is _ _
    · exact Stable.is _ _
    · exact Stable.is _ _
    · exact Stable.is _ _
    · exact Stable.is _ _
    · intro v w1 w2 h ho
      have ho : Only (fun q => (fun q => (Value.slice a5 rs.length c5).ownBlock = some q) q ∨ (fun _ => False) q) w1 w2 := ho
      exact (by obtain ⟨g, e, q1, q2⟩ := h; exact ⟨g, e, q1, by rw [ho.block _ (Array.getElem?_eq_some_iff.1 q2).1 (fun h => by rcases h with h | h; (have := (HLB.out g h).2; omega); exact h)]; exact q2⟩)
    · intro v w1 w2 h ho
      have ho : Only (fun _ => False) w1 w2 := ho
      exact (by exact ⟨own_only' h.1 ho (fun _ _ h => h), h.2⟩)
    · intro v w1 w2 h ho
      have ho : Only (fun _ => False) w1 w2 := ho
      exact (by obtain ⟨a', c', e, q1⟩ := h; exact ⟨a', c', e, own_only' q1 ho (fun _ _ h => h)⟩)
    · intro x wx ox hN TT HTT
      have ox : Only (fun q => (fun q => (Value.slice a5 rs.length c5).ownBlock = some q) q ∨ (fun _ => False) q) _ wx := ox
      clear hN
      unfold StepTo
      simp only [putAll, Act.put, List.setIfInBounds_toArray, List.set_cons_succ, List.set_cons_zero]
      go_wp2_with fail
      exact ⟨rfl, _, rfl, HTT.out _ _ (rfl) (Only.refl _ _)⟩
    · intro x wx ox hN TT HTT
      have ox : Only (fun q => (fun q => (Value.slice a5 rs.length c5).ownBlock = some q) q ∨ (fun _ => False) q) _ wx := ox
      have r10 : x 0 = (.pointer (some ⟨b2, 0, none⟩)) := hN.1 rfl
      clear hN
      unfold StepTo
      simp only [putAll, Act.put, List.setIfInBounds_toArray, List.set_cons_succ, List.set_cons_zero, r10]
      clear r10
      have g1 : wx.cell? ⟨b2, 0, none⟩ = some (.string ⟨s.toArray⟩) := by
        rw [cell_only (((Only.refl _ wc).drew).trans ox) (a := ⟨b2, 0, none⟩) HC2.out.2 (fun h => h.elim (fun h => by have := (HLB.out b2 h).1; have := HB2.out; omega) (fun h => h))]; exact HC2.out.1
      go_wp2_with fail
      exact ⟨rfl, _, rfl, HTT.out _ _ (rfl) (Only.refl _ _)⟩
    · intro x wx ox hN TT HTT
      have ox : Only (fun _ => False) _ wx := ox
      clear hN
      unfold StepTo
      simp only [putAll, Act.put, List.setIfInBounds_toArray, List.set_cons_succ, List.set_cons_zero]
      go_wp2_with fail
      exact ⟨rfl, _, rfl, HTT.out _ _ (rfl) (Only.refl _ _)⟩
    · intro x wx ox hN TT HTT
      have ox : Only (fun _ => False) _ wx := ox
      clear hN
      unfold StepTo
      simp only [putAll, Act.put, List.setIfInBounds_toArray, List.set_cons_succ, List.set_cons_zero]
      go_wp2_with fail
      exact ⟨rfl, _, rfl, HTT.out _ _ (rfl) (Only.refl _ _)⟩
    · intro x wx ox hN TT HTT
      have ox : Only (fun _ => False) _ wx := ox
      have r13 : x 3 = (.slice aP p.length cP) := hN.1 rfl
      clear hN
      unfold StepTo
      simp only [putAll, Act.put, List.setIfInBounds_toArray, List.set_cons_succ, List.set_cons_zero, r13]
      clear r13
      obtain ⟨g1, g2, g3⟩ := HFA.out wx (((Only.refl _ wc).drew).trans ox)
      have hcv := g2.conv
      go_wp2_with fail
      exact ⟨rfl, _, rfl, HTT.out _ _ (rfl) (Only.refl _ _)⟩
    · intro x wx ox hN TT HTT
      have ox : Only (fun _ => False) _ wx := ox
      have r14 : x 4 = (.string ⟨p.toArray⟩) := hN.1 rfl
      clear hN
      unfold StepTo
      simp only [putAll, Act.put, List.setIfInBounds_toArray, List.set_cons_succ, List.set_cons_zero, r14]
      clear r14
      have hn := heap_new wx (.cells #[.string ⟨p.toArray⟩] 9)
      have on := (Only.refl (fun _ => False) wx).alloc (.cells #[.string ⟨p.toArray⟩] 9)
      have hsz : wc.heap.size ≤ wx.heap.size := ox.size
      have HN := Lib.hid hn; have ON := Lib.hid on; have HSZ5 := Lib.hid hsz; clear hn on hsz
      go_wp2_with fail
      exact ⟨rfl, _, rfl, HTT.out _ _ (⟨wx.heap.size, rfl, HSZ5.out, HN.out⟩) (ON.out)⟩
    · intro x wx ox hN TT HTT
      have ox : Only (fun _ => False) _ wx := ox
      have r12 : x 2 = (.slice a5 rs.length c5) := hN.1 rfl
      have r15 : (fun (v : Value) (w1 : World) => ∃ g, v = .slice (some ⟨g, 0, none⟩) 1 1 ∧ wc.heap.size ≤ g ∧ w1.heap[g]? = some (.cells #[.string ⟨p.toArray⟩] 9 (0, 0))) (x 5) wx := hN.2.1 rfl
      clear hN
      unfold StepTo
      simp only [putAll, Act.put, List.setIfInBounds_toArray, List.set_cons_succ, List.set_cons_zero, r12]
      clear r12
      obtain ⟨g, e1, e2, e3⟩ := r15
      simp only [e1]
      have hys : ∀ j' u, [strR p][j']? = some u → wx.cell? ((⟨g, 0, none⟩ : Addr).add j') = some u := fun j' u hu => by rw [addr_add]; exact range_of_block (cs := [strR p]) e3 j' u hu
      have hox := (HFA.out wx (((Only.refl _ wc).drew).trans ox)).2.2
      have hsz : wc.heap.size ≤ wx.heap.size := ox.size
      have hsz2 : w.heap.size + 2 ≤ wx.heap.size := by have := HSZ.out; have := HO5.out.size; omega
      have HOX := Lib.hid hox; have HYS := Lib.hid hys; have HSZ5 := Lib.hid hsz; have HSZ2 := Lib.hid hsz2; clear hox hys hsz e1 e2 e3 hsz2
      go_wp2_with ((refine wpList_append_own2 (o := ⟨some 16, _, _, _, _, _⟩) rfl (.tmp 12) (.tmp 15) 40 9 (by rfl) Try.underlying40 infoStrG rfl (by decide) (w.heap.size + 2) (.slice a5 rs.length c5) rs.length 1 1 (rs.map strR) [strR p] ⟨g, 0, none⟩ (by rfl) (by rfl) HOX.out (by rfl) HYS.out (by intro u hu; simp [strR] at hu; subst hu; rfl) (by have := HLL.out; unfold maxLen; omega) (by have := HLL.out; omega) HSZ2.out ?_; intro v' w9 q1 q2 q3))
      exact ⟨rfl, _, rfl, HTT.out _ _ (⟨q1, fun q hq => (q3 q hq).imp _root_.id (fun h => Nat.le_trans HSZ5.out h)⟩) (q2)⟩
    · intro x wx ox hN TT HTT
      have ox : Only (fun q => (fun q => (Value.slice a5 rs.length c5).ownBlock = some q) q ∨ (fun _ => False) q) _ wx := ox
      have r11 : x 1 = (.string ⟨s.toArray⟩) := hN.1 rfl
      have r16 : (fun (v : Value) (w1 : World) => w1.ownsRow (w.heap.size + 2) 9 1 v (rs.length + 1) (rs.map strR ++ [strR p]) ∧ ∀ q, v.ownBlock = some q → (Value.slice a5 rs.length c5).ownBlock = some q ∨ wc.heap.size ≤ q) (x 6) wx := hN.2.1 rfl
      clear hN
      unfold StepTo
      simp only [putAll, Act.put, List.setIfInBounds_toArray, List.set_cons_succ, List.set_cons_zero, r11]
      clear r11
      obtain ⟨q1, q2⟩ := r16
      obtain ⟨aL', cL', eL', _, _, _⟩ := own_form q1
      simp only [eL']
      rw [eL'] at q1
      have HQ := Lib.hid q1; clear q1 q2 eL'
      go_wp2_with fail
      exact ⟨rfl, _, rfl, HTT.out _ _ (⟨aL', cL', rfl, HQ.out⟩) (Only.refl _ _)⟩
    intro xa wxa oxa hN
    have oxa : Only (fun q => (fun q => (Value.slice a5 rs.length c5).ownBlock = some q) q ∨ (fun _ => False) q) _ wxa := oxa
    have r10 : xa 0 = (.pointer (some ⟨b2, 0, none⟩)) := hN.1
    have r11 : xa 1 = (.string ⟨s.toArray⟩) := hN.2.1
    have r12 : xa 2 = (.slice a5 rs.length c5) := hN.2.2.1
    have r13 : xa 3 = (.slice aP p.length cP) := hN.2.2.2.1
    have r14 : xa 4 = (.string ⟨p.toArray⟩) := hN.2.2.2.2.1
    have r15 : (fun (v : Value) (w1 : World) => ∃ g, v = .slice (some ⟨g, 0, none⟩) 1 1 ∧ wc.heap.size ≤ g ∧ w1.heap[g]? = some (.cells #[.string ⟨p.toArray⟩] 9 (0, 0))) (xa 5) wxa := hN.2.2.2.2.2.1
    have r16 : (fun (v : Value) (w1 : World) => w1.ownsRow (w.heap.size + 2) 9 1 v (rs.length + 1) (rs.map strR ++ [strR p]) ∧ ∀ q, v.ownBlock = some q → (Value.slice a5 rs.length c5).ownBlock = some q ∨ wc.heap.size ≤ q) (xa 6) wxa := hN.2.2.2.2.2.2.1
    have r17 : (fun (v : Value) (w1 : World) => ∃ a' c', v = .agg #[.string ⟨s.toArray⟩, .slice a' (rs.length + 1) c'] ∧ w1.ownsRow (w.heap.size + 2) 9 1 (.slice a' (rs.length + 1) c') (rs.length + 1) (rs.map strR ++ [strR p])) (xa 7) wxa := hN.2.2.2.2.2.2.2.1
    clear hN
    simp only [putAll, Act.put, List.setIfInBounds_toArray, List.set_cons_succ, List.set_cons_zero, r10, r11, r12, r13, r14]
    clear r10 r11 r12 r13 r14
    obtain ⟨a', c', e1, q1⟩ := r17
    simp only [e1]
    have oa : Only (fun q => (Value.slice a5 rs.length c5).ownBlock = some q) wc wxa := ((Only.refl _ wc).drew).trans (oxa.mono (fun q _ h => h.resolve_right (fun h => h)))
    have hl4 : b4 < W.heap.size := (Array.getElem?_eq_some_iff.1 HN4.out).1
    have h4x : wxa.heap[b4]? = some (.cells #[.string ⟨#[]⟩, .slice none 0 0] 68 (0, 0)) := by
      rw [oa.block b4 (Nat.lt_of_lt_of_le hl4 HO5.out.size) (fun h => by have := (HLB.out _ h).1; have := HB4.out; omega), HO5.out.block b4 hl4 (fun h => h)]
      exact HN4.out
    have H4X := Lib.hid h4x; have OA := Lib.hid oa; have Q1 := Lib.hid q1
    clear h4x oa q1 e1 r15 r16
    go_wp2_with ((refine wpList_store_box (o := ⟨none, _, _, _, _, _⟩) rfl 68 (.tmp 4) (.tmp 17) (by rfl) b4 [.string ⟨#[]⟩, .slice none 0 0] [.string ⟨s.toArray⟩, .slice a' (rs.length + 1) c'] (by rfl) (by rfl) H4X.out (by rfl) (by kernel_rfl) (by intro u hu; simp at hu; rcases hu with rfl | rfl <;> rfl) ?_; intro w9 k1 k2))
    have hown4 := own_only' Q1.out k2 (fun q hq e => by have := ((own_form Q1.out).choose_spec.choose_spec.2.2.2 q hq).1; have := HB4.out; omega)
    have hfull : World.ownsRow w9 (w.heap.size + 2) 9 1 (.slice a' (rs.length + 1) c') (rs ++ [p]).length ((rs ++ [p]).map strR) := by
      rw [List.length_append, List.length_singleton, List.map_append]; exact hown4
    obtain ⟨a9, c9, e9, g1, g2, g3⟩ := strs_of_own hfull
    injection e9 with e9a _ e9b
    subst e9a; subst e9b
    have hk : KeptV w9 (fun q => w.heap.size ≤ q) (.agg #[strR s, .slice a' (rs.length + 1) c']) s (rs ++ [p]) := ⟨a', c', by rw [List.length_append, List.length_singleton], g1, g2, g3.weaken (fun q _ h => by omega)⟩
    have hoW : Only (fun _ => False) w w9 := ((HO.out.trans HO5.out).trans' OA.out (fun q hq h => by have := (HLB.out q h).1; omega)).trans' k2 (fun q hq e => by have := HB4.out; omega)
    obtain ⟨z0, z1, _, _⟩ := cell2 k1
    have HK := Lib.hid hk; have HOZ := Lib.hid hoW
    clear hk hoW k2 hown4 hfull g1 g2 g3
    go_wp2_with fail
    exact bodyPost_ret (v := .agg #[.string ⟨s.toArray⟩, .slice a' (rs.length + 1) c']) (by simp [results, Try.results43, go_sem, z0, z1]) rfl ⟨_, rfl, HK.out, HOZ.out⟩
end Go.Proofs.Ytlkglhgndfhjeaa
