/- The reference of the ledger (columbaryref02): Of, With. -/
import Derived.Test.YtlkglhgndfhjeaaGrf
namespace Go.Proofs.Ytlkglhgndfhjeaa
open Go Go.RowKit
set_option linter.unusedVariables false
set_option linter.unusedSimpArgs false
set_option maxRecDepth 100000

theorem infoStrG : (Try.prog.info? 9).map (fun i => (i.zero, i.size, i.bytes)) = some (some (.string ByteArray.empty), 1, 16) := by kernel_rfl
/-- A row of its own as strings in a row. -/
theorem strs_of_own {w : World} {B : Nat} {v : Value} {rs : List (List UInt8)} (h : w.ownsRow B 9 1 v rs.length (rs.map strR)) : ∃ a c, v = .slice a rs.length c ∧ rs.length ≤ c ∧ c ≤ maxLen ∧ StrsAt w (fun q => B ≤ q) a rs := by
  obtain ⟨a, c, rfl, h1, h2, _⟩ := own_form h
  refine ⟨a, c, rfl, h1, h2, fun hp => ?_⟩
  obtain ⟨g, c', e, hg, hl, hr⟩ := own_range h hp
  injection e with e _ _
  exact ⟨g, 0, e, hg, hl, hr⟩
set_option maxHeartbeats 4000000 in
theorem of_any (G : Nat → Prop) (sv av : Value) (s : List UInt8) (rs : List (List UInt8)) (w : World) (h : Recs w G sv av s rs) (hl : rs.length ≤ 1000000) (hs : s.length ≤ 1000000) :
    Calls Try.prog 39 #[sv, av] w fun e w' => ∃ v, e = .returned v ∧ KeptV w' (fun q => w.heap.size ≤ q) v s rs ∧ Only (fun _ => False) w w' := by
  obtain ⟨⟨aS, cS, eS, hbS, hgS⟩, aR, cR, rfl, hcR1, hcR2, hlist⟩ := h
  injection eS with eS _
  subst eS
  have hcv := fun w' (o : Only (fun _ => False) w w') => (hbS.still o).conv
  have HCV := Lib.hid hcv; have HL := Lib.hid hlist
  have hrl : (rs.length : Int) ≤ 1000000 := by omega
  clear hcv hlist hbS hgS
  obtain ⟨b4, hb4⟩ : ∃ b4, b4 = w.heap.size := ⟨_, rfl⟩
  have hc1 := HCV.out (w.alloc (.cells #[.string ⟨#[]⟩, .slice none 0 0] 68)) ((Only.refl _ w).alloc _)
  go_enter Try.func39, Try.ntmps39
  have hA4 := heap_old (heap_new w (.cells #[.string ⟨#[]⟩, .slice none 0 0] 68)) (.cells #[.string ⟨s.toArray⟩, .slice none 0 0] 68)
  have hA5 := heap_new (w.alloc (.cells #[.string ⟨#[]⟩, .slice none 0 0] 68)) (.cells #[.string ⟨s.toArray⟩, .slice none 0 0] 68)
  have hAo := ((Only.refl (fun _ => False) w).alloc (.cells #[.string ⟨#[]⟩, .slice none 0 0] 68)).alloc (.cells #[.string ⟨s.toArray⟩, .slice none 0 0] 68)
  have hAs : (w.alloc (.cells #[.string ⟨#[]⟩, .slice none 0 0] 68)).heap.size = w.heap.size + 1 := by simp
  rw [hAs] at hA5
  obtain ⟨b5, hb5⟩ : ∃ b5, b5 = w.heap.size + 1 := ⟨_, rfl⟩
  rw [← hb5] at hA5
  rw [← hb4] at hA4
  have HA4 := Lib.hid hA4; have HA5 := Lib.hid hA5; have HAO := Lib.hid hAo; have HB4 := Lib.hid hb4; have HB5 := Lib.hid hb5
  clear hA4 hA5 hAo hAs
  go_wp2_with fail
  rw [← hb5, ← hb4]
  clear hb4 hb5 hc1
  go_loopw [6] (fun v6 wr => ∃ (k : Nat) (aK : Option Addr) (cK : Nat), v6 = .int .i64 (k : Int) ∧ k ≤ rs.length ∧ Hid (wr.heap[b5]? = some (.cells #[.string ⟨s.toArray⟩, .slice aK k cK] 68 (0, 0))) ∧ Hid (wr.heap[b4]? = some (.cells #[.string ⟨#[]⟩, .slice none 0 0] 68 (0, 0))) ∧ Hid (wr.ownsRow (w.heap.size + 2) 9 1 (.slice aK k cK) k ((rs.take k).map strR)) ∧ Hid (Only (fun _ => False) w wr)) (fun v _ => rs.length - (intOf v).toNat)
  case atStart => exact ⟨0, none, 0, by simp, by omega, HA5, HA4, Lib.hid (by simpa using own_nil _ _ _ _), HAO⟩
  case round =>
    obtain ⟨k, aK, cK, rfl, hk, H5, H4, HO, HW⟩ := hrel
    by_cases hlt : k < rs.length
    · have t1 : decide ((k : Int) < (rs.length : Int)) = true := by simpa using hlt
      obtain ⟨b, off, cs, rfl, hGb, hbl, hcl, hra, aV, cV, rfl, hbV, hgV⟩ := HL.out.get k hlt
      have hc : w.cell? ⟨b, off + k, none⟩ = some (.slice aV rs[k].length cV) := by
        have := hra 0 _ rfl
        simpa using this
      have hlb5 := (Array.getElem?_eq_some_iff.1 H5.out).1
      have hLB : ∀ q, (Value.slice aK k cK).ownBlock = some q → w.heap.size + 2 ≤ q ∧ q < wr.heap.size := fun q hq => (own_form HO.out).choose_spec.choose_spec.2.2.2 q hq
      obtain ⟨r, hr⟩ : ∃ r, r = rs[k] := ⟨_, rfl⟩
      rw [← hr] at hc hbV
      have htk : (rs.take (k + 1)).map strR = (rs.take k).map strR ++ [strR r] := by rw [List.take_succ_eq_append_getElem hlt, List.map_append, hr]; rfl
      have hfa : ∀ w', Only (fun _ => False) wr w' → w'.cell? ⟨b5, 1, none⟩ = some (.slice aK k cK) ∧ w'.cell? ⟨b, off + k, none⟩ = some (.slice aV r.length cV) ∧ Bytes w' (.slice aV r.length cV) r ∧ w'.ownsRow (w.heap.size + 2) 9 1 (.slice aK k cK) k ((rs.take k).map strR) := fun w' o =>
        ⟨by rw [cell_only o (a := ⟨b5, 1, none⟩) hlb5 (fun h => h)]; exact (cell2 H5.out).2.1, by rw [cell_only (HW.out.trans o) (a := ⟨b, _, none⟩) hbl (fun h => h)]; exact hc, hbV.still (HW.out.trans o), own_only' HO.out o (fun _ _ h => h)⟩
      have hkk0 : (0 : Int) ≤ (k : Int) := by omega
      have hkk1 : (k : Int) < (rs.length : Int) := by omega
      have HFA := Lib.hid hfa; have HLB := Lib.hid hLB; have HTK := Lib.hid htk
      clear hfa hLB htk hc hbV hgV hra hcl hGb hr
      go_upto_region 5 with (fail)
      refine wp_region_stepsM 10 (by kernel_rfl) rfl (by kernel_rfl) [some 16, some 17, some 18, some 19, some 20, some 21, some 22, some 23, some 24, some 25] rfl rfl 8 11 (fun q => (Value.slice aK k cK).ownBlock = some q) (fun _ => False) [9, 10] (by kernel_rfl) [0, 1, 2, 3, 4, 5, 6, 7] (by kernel_rfl) (by decide) (by decide) (.inl (by decide)) [(fun v _ => v = (.pointer (some ⟨b5, 1, none⟩))), (fun v _ => v = (.slice aK k cK)), (fun v _ => v = (.slice (some ⟨b, off, none⟩) rs.length cR)), (fun v _ => v = (.int .i64 (k : Int))), (fun v _ => v = (.pointer (some ⟨b, off + k, none⟩))), (fun v _ => v = (.slice aV r.length cV)), (fun v _ => v = (.string ⟨r.toArray⟩)), (fun v w1 => ∃ g, v = .slice (some ⟨g, 0, none⟩) 1 1 ∧ wr.heap.size ≤ g ∧ w1.heap[g]? = some (.cells #[.string ⟨r.toArray⟩] 9 (0, 0))), (fun v w1 => w1.ownsRow (w.heap.size + 2) 9 1 v (k + 1) ((rs.take k).map strR ++ [strR r]) ∧ ∀ q, v.ownBlock = some q → (Value.slice aK k cK).ownBlock = some q ∨ wr.heap.size ≤ q), (fun v _ => v = (.pointer (some ⟨b5, 1, none⟩)))] rfl ⟨?_, ?_, ?_, ?_, ?_, ?_, ?_, ?_, ?_, ?_, trivial⟩ _ rfl ⟨?_, ?_, ?_, ?_, ?_, ?_, ?_, ?_, ?_, ?_, trivial⟩ ?_
      · exact Stable.is _ _
      · exact Stable.is _ _
      · exact Stable.is _ _
      · exact Stable.is _ _
      · exact Stable.is _ _
      · exact Stable.is _ _
      · exact Stable.is _ _
      · intro v w1 w2 h ho
        have ho : Only (fun q => (fun q => (Value.slice aK k cK).ownBlock = some q) q ∨ (fun _ => False) q) w1 w2 := ho
        exact (by obtain ⟨g, e, q1, q2⟩ := h; exact ⟨g, e, q1, by rw [ho.block _ (Array.getElem?_eq_some_iff.1 q2).1 (fun h => by rcases h with h | h; (have := (HLB.out g h).2; omega); exact h)]; exact q2⟩)
      · intro v w1 w2 h ho
        have ho : Only (fun _ => False) w1 w2 := ho
        exact (by exact ⟨own_only' h.1 ho (fun _ _ h => h), h.2⟩)
      · exact Stable.is _ _
      · intro x wx ox hN TT HTT
        have ox : Only (fun _ => False) _ wx := ox
        clear hN
        unfold StepTo
        simp only [putAll, Act.put, List.setIfInBounds_toArray, List.set_cons_succ, List.set_cons_zero]
        go_wp2_with fail
        exact ⟨rfl, _, rfl, HTT.out _ _ (rfl) (Only.refl _ _)⟩
      · intro x wx ox hN TT HTT
        have ox : Only (fun _ => False) _ wx := ox
        have r16 : x 0 = (.pointer (some ⟨b5, 1, none⟩)) := hN.1 rfl
        clear hN
        unfold StepTo
        simp only [putAll, Act.put, List.setIfInBounds_toArray, List.set_cons_succ, List.set_cons_zero, r16]
        clear r16
        obtain ⟨g1, g2, g3, g4⟩ := HFA.out wx (((Only.refl _ wr).drew).trans ox)
        go_wp2_with fail
        exact ⟨rfl, _, rfl, HTT.out _ _ (rfl) (Only.refl _ _)⟩
      · intro x wx ox hN TT HTT
        have ox : Only (fun _ => False) _ wx := ox
        clear hN
        unfold StepTo
        simp only [putAll, Act.put, List.setIfInBounds_toArray, List.set_cons_succ, List.set_cons_zero]
        go_wp2_with fail
        exact ⟨rfl, _, rfl, HTT.out _ _ (rfl) (Only.refl _ _)⟩
      · intro x wx ox hN TT HTT
        have ox : Only (fun _ => False) _ wx := ox
        clear hN
        unfold StepTo
        simp only [putAll, Act.put, List.setIfInBounds_toArray, List.set_cons_succ, List.set_cons_zero]
        go_wp2_with fail
        exact ⟨rfl, _, rfl, HTT.out _ _ (rfl) (Only.refl _ _)⟩
      · intro x wx ox hN TT HTT
        have ox : Only (fun _ => False) _ wx := ox
        have r18 : x 2 = (.slice (some ⟨b, off, none⟩) rs.length cR) := hN.1 rfl
        have r19 : x 3 = (.int .i64 (k : Int)) := hN.2.1 rfl
        clear hN
        unfold StepTo
        simp only [putAll, Act.put, List.setIfInBounds_toArray, List.set_cons_succ, List.set_cons_zero, r18, r19]
        clear r18 r19
        go_wp2_with fail
        exact ⟨rfl, _, rfl, HTT.out _ _ (rfl) (Only.refl _ _)⟩
      · intro x wx ox hN TT HTT
        have ox : Only (fun _ => False) _ wx := ox
        have r20 : x 4 = (.pointer (some ⟨b, off + k, none⟩)) := hN.1 rfl
        clear hN
        unfold StepTo
        simp only [putAll, Act.put, List.setIfInBounds_toArray, List.set_cons_succ, List.set_cons_zero, r20]
        clear r20
        obtain ⟨g1, g2, g3, g4⟩ := HFA.out wx (((Only.refl _ wr).drew).trans ox)
        go_wp2_with fail
        exact ⟨rfl, _, rfl, HTT.out _ _ (rfl) (Only.refl _ _)⟩
      · intro x wx ox hN TT HTT
        have ox : Only (fun _ => False) _ wx := ox
        have r21 : x 5 = (.slice aV r.length cV) := hN.1 rfl
        clear hN
        unfold StepTo
        simp only [putAll, Act.put, List.setIfInBounds_toArray, List.set_cons_succ, List.set_cons_zero, r21]
        clear r21
        obtain ⟨g1, g2, g3, g4⟩ := HFA.out wx (((Only.refl _ wr).drew).trans ox)
        have hcv := g3.conv
        go_wp2_with fail
        exact ⟨rfl, _, rfl, HTT.out _ _ (rfl) (Only.refl _ _)⟩
      · intro x wx ox hN TT HTT
        have ox : Only (fun _ => False) _ wx := ox
        have r22 : x 6 = (.string ⟨r.toArray⟩) := hN.1 rfl
        clear hN
        unfold StepTo
        simp only [putAll, Act.put, List.setIfInBounds_toArray, List.set_cons_succ, List.set_cons_zero, r22]
        clear r22
        have hn := heap_new wx (.cells #[.string ⟨r.toArray⟩] 9)
        have on := (Only.refl (fun _ => False) wx).alloc (.cells #[.string ⟨r.toArray⟩] 9)
        have hsz : wr.heap.size ≤ wx.heap.size := ox.size
        have HN := Lib.hid hn; have ON := Lib.hid on; have HSZ := Lib.hid hsz; clear hn on hsz
        go_wp2_with fail
        exact ⟨rfl, _, rfl, HTT.out _ _ (⟨wx.heap.size, rfl, HSZ.out, HN.out⟩) (ON.out)⟩
      · intro x wx ox hN TT HTT
        have ox : Only (fun _ => False) _ wx := ox
        have r17 : x 1 = (.slice aK k cK) := hN.1 rfl
        have r23 : (fun (v : Value) (w1 : World) => ∃ g, v = .slice (some ⟨g, 0, none⟩) 1 1 ∧ wr.heap.size ≤ g ∧ w1.heap[g]? = some (.cells #[.string ⟨r.toArray⟩] 9 (0, 0))) (x 7) wx := hN.2.1 rfl
        clear hN
        unfold StepTo
        simp only [putAll, Act.put, List.setIfInBounds_toArray, List.set_cons_succ, List.set_cons_zero, r17]
        clear r17
        obtain ⟨g, e1, e2, e3⟩ := r23
        simp only [e1]
        have hys : ∀ j' u, [strR r][j']? = some u → wx.cell? ((⟨g, 0, none⟩ : Addr).add j') = some u := fun j' u hu => by rw [addr_add]; exact range_of_block (cs := [strR r]) e3 j' u hu
        have hox := (HFA.out wx (((Only.refl _ wr).drew).trans ox)).2.2.2
        have hsz : wr.heap.size ≤ wx.heap.size := ox.size
        have hsz2 : w.heap.size + 2 ≤ wx.heap.size := by have := HB5.out; omega
        have hwl : k ≤ 1000000000 := by omega
        have HOX := Lib.hid hox; have HYS := Lib.hid hys; have HSZ := Lib.hid hsz; have HSZ2 := Lib.hid hsz2; have HWL := Lib.hid hwl; clear hox hys hsz hwl e1 e2 e3 hsz2
        go_wp2_with ((refine wpList_append_own2 (o := ⟨some 24, _, _, _, _, _⟩) rfl (.tmp 17) (.tmp 23) 40 9 (by rfl) Try.underlying40 infoStrG rfl (by decide) (w.heap.size + 2) (.slice aK k cK) k 1 1 ((rs.take k).map strR) [strR r] ⟨g, 0, none⟩ (by rfl) (by rfl) HOX.out (by rfl) HYS.out (by intro u hu; simp [strR] at hu; subst hu; rfl) (by have := HWL.out; unfold maxLen; omega) (by have := HWL.out; omega) HSZ2.out ?_; intro v' w9 q1 q2 q3))
        exact ⟨rfl, _, rfl, HTT.out _ _ (⟨q1, fun q hq => (q3 q hq).imp _root_.id (fun h => Nat.le_trans HSZ.out h)⟩) (q2)⟩
      · intro x wx ox hN TT HTT
        have ox : Only (fun q => (fun q => (Value.slice aK k cK).ownBlock = some q) q ∨ (fun _ => False) q) _ wx := ox
        have r16 : x 0 = (.pointer (some ⟨b5, 1, none⟩)) := hN.1 rfl
        have r17 : x 1 = (.slice aK k cK) := hN.2.1 rfl
        have r18 : x 2 = (.slice (some ⟨b, off, none⟩) rs.length cR) := hN.2.2.1 rfl
        have r19 : x 3 = (.int .i64 (k : Int)) := hN.2.2.2.1 rfl
        have r20 : x 4 = (.pointer (some ⟨b, off + k, none⟩)) := hN.2.2.2.2.1 rfl
        have r21 : x 5 = (.slice aV r.length cV) := hN.2.2.2.2.2.1 rfl
        have r22 : x 6 = (.string ⟨r.toArray⟩) := hN.2.2.2.2.2.2.1 rfl
        have r23 : (fun (v : Value) (w1 : World) => ∃ g, v = .slice (some ⟨g, 0, none⟩) 1 1 ∧ wr.heap.size ≤ g ∧ w1.heap[g]? = some (.cells #[.string ⟨r.toArray⟩] 9 (0, 0))) (x 7) wx := hN.2.2.2.2.2.2.2.1 rfl
        have r24 : (fun (v : Value) (w1 : World) => w1.ownsRow (w.heap.size + 2) 9 1 v (k + 1) ((rs.take k).map strR ++ [strR r]) ∧ ∀ q, v.ownBlock = some q → (Value.slice aK k cK).ownBlock = some q ∨ wr.heap.size ≤ q) (x 8) wx := hN.2.2.2.2.2.2.2.2.1 rfl
        clear hN
        unfold StepTo
        simp only [putAll, Act.put, List.setIfInBounds_toArray, List.set_cons_succ, List.set_cons_zero, r16, r17, r18, r19, r20, r21, r22]
        clear r16 r17 r18 r19 r20 r21 r22
        go_wp2_with fail
        exact ⟨rfl, _, rfl, HTT.out _ _ (rfl) (Only.refl _ _)⟩
      intro xa wxa oxa hN
      have oxa : Only (fun q => (fun q => (Value.slice aK k cK).ownBlock = some q) q ∨ (fun _ => False) q) _ wxa := oxa
      have r16 : xa 0 = (.pointer (some ⟨b5, 1, none⟩)) := hN.1
      have r17 : xa 1 = (.slice aK k cK) := hN.2.1
      have r18 : xa 2 = (.slice (some ⟨b, off, none⟩) rs.length cR) := hN.2.2.1
      have r19 : xa 3 = (.int .i64 (k : Int)) := hN.2.2.2.1
      have r20 : xa 4 = (.pointer (some ⟨b, off + k, none⟩)) := hN.2.2.2.2.1
      have r21 : xa 5 = (.slice aV r.length cV) := hN.2.2.2.2.2.1
      have r22 : xa 6 = (.string ⟨r.toArray⟩) := hN.2.2.2.2.2.2.1
      have r23 : (fun (v : Value) (w1 : World) => ∃ g, v = .slice (some ⟨g, 0, none⟩) 1 1 ∧ wr.heap.size ≤ g ∧ w1.heap[g]? = some (.cells #[.string ⟨r.toArray⟩] 9 (0, 0))) (xa 7) wxa := hN.2.2.2.2.2.2.2.1
      have r24 : (fun (v : Value) (w1 : World) => w1.ownsRow (w.heap.size + 2) 9 1 v (k + 1) ((rs.take k).map strR ++ [strR r]) ∧ ∀ q, v.ownBlock = some q → (Value.slice aK k cK).ownBlock = some q ∨ wr.heap.size ≤ q) (xa 8) wxa := hN.2.2.2.2.2.2.2.2.1
      have r25 : xa 9 = (.pointer (some ⟨b5, 1, none⟩)) := hN.2.2.2.2.2.2.2.2.2.1
      clear hN
      simp only [putAll, Act.put, List.setIfInBounds_toArray, List.set_cons_succ, List.set_cons_zero, r16, r17, r18, r19, r20, r21, r22, r25]
      clear r16 r17 r18 r19 r20 r21 r22 r25
      obtain ⟨q1, q2⟩ := r24
      obtain ⟨aL', cL', eL', gL1', gL2', gL3'⟩ := own_form q1
      rw [eL'] at q1 q2 ⊢
      have oa : Only (fun q => (Value.slice aK k cK).ownBlock = some q) wr wxa := ((Only.refl _ wr).drew).trans (oxa.mono (fun q _ h => h.resolve_right (fun h => h)))
      have hn5 : ¬ (Value.slice aK k cK).ownBlock = some b5 := fun h => by have := (HLB.out _ h).1; have := HB5.out; omega
      have hn4 : ¬ (Value.slice aK k cK).ownBlock = some b4 := fun h => by have := (HLB.out _ h).1; have := HB4.out; omega
      have hlb4 := (Array.getElem?_eq_some_iff.1 H4.out).1
      have h5x : wxa.heap[b5]? = _ := (oa.block b5 hlb5 hn5).trans H5.out
      have h4x : wxa.heap[b4]? = _ := (oa.block b4 hlb4 hn4).trans H4.out
      obtain ⟨_, y1, yz, _⟩ := cell2 h5x
      have h5y := heap_set (o := 1) h5x (.slice aL' (k + 1) cL')
      have h5y' : (wxa.setCell ⟨b5, 1, none⟩ (.slice aL' (k + 1) cL')).heap[b5]? = some (.cells #[.string ⟨s.toArray⟩, .slice aL' (k + 1) cL'] 68 (0, 0)) := by simpa using h5y
      have h4y := heap_set_ne (a := ⟨b5, 1, none⟩) h4x (by have := HB4.out; have := HB5.out; show b4 ≠ b5; omega) (.slice aL' (k + 1) cL')
      have o5 := (Only.refl (fun q => q = b5) wxa).setCell (p := ⟨b5, 1, none⟩) (.inl rfl) (.slice aL' (k + 1) cL')
      have hoS := own_only' q1 o5 (fun q hq e => by
        rcases q2 q hq with h | h
        · subst e; exact hn5 h
        · omega)
      rw [← HTK.out] at hoS
      have hoW : Only (fun _ => False) w (wxa.setCell ⟨b5, 1, none⟩ (.slice aL' (k + 1) cL')) := (HW.out.trans' oa (fun q hq h => by have := (HLB.out q h).1; omega)).trans' o5 (fun q hq e => by have := HB5.out; omega)
      have H5Y := Lib.hid h5y'; have H4Y := Lib.hid h4y; have HOS := Lib.hid hoS; have HOW := Lib.hid hoW
      clear h5y h5y' h4y hoS hoW o5 oa h5x h4x hn5 hn4 q1 q2 gL3' eL' hlb4 r23
      go_wp2_with fail
      go_roundw
      case rel => exact ⟨k + 1, aL', cL', by simp [go_sem], by omega, H5Y, H4Y, HOS, HOW⟩
      case measure => simp [intOf]; omega
    · have t1 : decide ((k : Int) < (rs.length : Int)) = false := by simp; omega
      obtain rfl : k = rs.length := by omega
      obtain ⟨x0, x1, xz, xl⟩ := cell2 H5.out
      obtain ⟨y0, y1, yz, yl⟩ := cell2 H4.out
      have hown := HO.out
      rw [List.take_length] at hown
      have hs4 := heap_set (o := 1) (heap_set (o := 0) H4.out (.string ⟨s.toArray⟩)) (.slice aK rs.length cK)
      have hs4' : ((wr.setCell ⟨b4, 0, none⟩ (.string ⟨s.toArray⟩)).setCell ⟨b4, 1, none⟩ (.slice aK rs.length cK)).heap[b4]? = some (.cells #[.string ⟨s.toArray⟩, .slice aK rs.length cK] 68 (0, 0)) := by simpa using hs4
      have o4 := ((Only.refl (fun q => q = b4) wr).setCell (p := ⟨b4, 0, none⟩) (.inl rfl) (.string ⟨s.toArray⟩)).setCell (p := ⟨b4, 1, none⟩) (.inl rfl) (.slice aK rs.length cK)
      have hown4 := own_only' hown o4 (fun q hq e => by have := ((own_form hown).choose_spec.choose_spec.2.2.2 q hq).1; have := HB4.out; omega)
      obtain ⟨a', c', e', g1, g2, g3⟩ := strs_of_own hown4
      injection e' with e1 _ e2
      subst e1; subst e2
      have hoW := HW.out.trans' o4 (fun q hq e => by have := HB4.out; omega)
      have hk : KeptV ((wr.setCell ⟨b4, 0, none⟩ (.string ⟨s.toArray⟩)).setCell ⟨b4, 1, none⟩ (.slice aK rs.length cK)) (fun q => w.heap.size ≤ q) (.agg #[strR s, .slice aK rs.length cK]) s rs := ⟨aK, cK, rfl, g1, g2, g3.weaken (fun q _ h => by omega)⟩
      obtain ⟨z0, z1, zz, zl⟩ := cell2 hs4'
      have HK := Lib.hid hk; have HOW := Lib.hid hoW
      clear hk hoW hs4 hs4' o4 hown hown4 g1 g2 g3
      go_wp2_with fail
      exact bodyPost_ret (v := .agg #[.string ⟨s.toArray⟩, .slice aK rs.length cK]) (by simp [results, Try.results39, go_sem, z0, z1]) rfl ⟨_, rfl, HK.out, HOW.out⟩
end Go.Proofs.Ytlkglhgndfhjeaa
