/- Package block: Restart. -/
import Derived.Test.YtlkglhgndfhjeaaBlkR
namespace Go.Proofs.Ytlkglhgndfhjeaa
open Go Go.RowKit
set_option linter.unusedVariables false
set_option linter.unusedSimpArgs false

theorem DiskAt.strict {w : World} {F : Nat → Prop} {b : Nat} {st : Dk} (h : DiskAt w F b st) : DiskAt w (fun k => F k ∧ k < w.heap.size) b st := by
  obtain ⟨h1, h2, h3, h3', gs, a, cap, h4, h5, h6, h7, h8, h9⟩ := h
  exact ⟨h1, h2, ⟨h3, (Array.getElem?_eq_some_iff.1 h6).1⟩, h3', gs, a, cap, h4, ⟨h5, (Array.getElem?_eq_some_iff.1 h7).1⟩, h6, h7, h8, fun k hk => ⟨(h9 k hk).1, (h9 k hk).2.1, (h9 k hk).2.2, (h8.2.ge hk).2⟩⟩
theorem splice_block {s : List (List UInt8)} (hs : ∀ r ∈ s, r.length = 64) {i : Nat} (hi : i < s.length) {p : List UInt8} (hp : p.length = 64) {t : Nat} (ht : t ≤ 64) :
    splice (s.map u8s).flatten (i * 64) ((u8s p).take t) = ((s.set i (p.take t ++ (s.getD i []).drop t)).map u8s).flatten := by
  have hl : ∀ x ∈ s.map u8s, x.length = 64 := by
    intro x hx
    obtain ⟨y, hy, rfl⟩ := List.mem_map.1 hx
    rw [u8s_len']; exact hs y hy
  have hi' : i < (s.map u8s).length := by simpa using hi
  have hg : s.getD i [] = s[i] := by rw [List.getD_eq_getElem?_getD, List.getElem?_eq_getElem hi]; rfl
  have hct : ((u8s p).take t).length = t := by rw [List.length_take, u8s_len', hp]; omega
  have e1 : (s.map u8s).flatten.drop (i * 64) = u8s s[i] ++ (s.map u8s).flatten.drop ((i + 1) * 64) := by
    rw [← flat_drop i hl, List.drop_eq_getElem_cons hi', List.flatten_cons, flat_drop (i + 1) hl, List.getElem_map]
  have e2 : (s.map u8s).flatten.drop (i * 64 + t) = u8s (s[i].drop t) ++ (s.map u8s).flatten.drop ((i + 1) * 64) := by
    rw [← List.drop_drop, e1, List.drop_append_of_le_length (by rw [u8s_len', hs _ (List.getElem_mem hi)]; exact ht), u8s_drop]
  unfold splice
  rw [hct, e2, hg, List.set_eq_take_append_cons_drop, if_pos hi, List.map_append, List.map_cons, List.flatten_append, List.flatten_cons, List.map_take, List.map_drop, flat_take i hl, flat_drop (i + 1) hl, u8s_append, u8s_take]
  simp only [List.append_assoc]
theorem DiskAt.putSure {F : Nat → Prop} {w w' : World} {b gs n m : Nat} {st : Dk} (h : DiskAt w F b st) (hc : w.cell? ⟨b, 0, none⟩ = some (.slice (some ⟨gs, 0, none⟩) n m)) (ho : Only (fun k => k = gs) w w')
    (s' : List (List UInt8)) (hs : ∀ r ∈ s', r.length = 64) (hl : s'.length = st.sure.length) (hg : w'.heap[gs]? = some (.cells (s'.map u8s).flatten.toArray 81)) : DiskAt w' F b { st with sure := s' } ∧ Only F w w' := by
  obtain ⟨h1, h2, h3, h3', g, a, cap, h4, h5, h6, h7, h8, h9⟩ := h
  have e : g = gs := by
    simp only [World.cell?, h6] at hc
    simp at hc; exact hc.1
  subst e
  refine ⟨⟨hs, h2, h3, by rw [hl]; exact h3', g, a, cap, h4, h5, ?_, hg, h8.only ho (fun k _ hk e => (h9 k hk).2.1 e), h9⟩, ho.mono (fun k _ hk => by subst hk; exact h5)⟩
  rw [ho.block _ (Array.getElem?_eq_some_iff.1 h6).1 h4, hl]
  exact h6
theorem step_copy_only {P : Program} {ops : Array Oper} {o : Oper} {a : Act} {w : World} {K : Act → World → Prop} {Q : Exit → Act → World → Prop} {E : Prop} (hgd : o.guard = none) (d s : Operand) (dT sT : TypeId)
    (ho : o.op = .call { callee := .builtin .copy, args := #[d, s], argTypes := #[dT, sT] }) (elem : TypeId) (hu : P.underlying dT = some (.slice elem)) (hsz : (P.info? elem).map (·.size) = some 1)
    (dp sp : Option Addr) (dLen dCap sLen sCap : Nat) (hd : a.eval d = .slice dp dLen dCap) (hs : a.eval s = .slice sp sLen sCap)
    (g off : Nat) (cur : List Value) (t : TypeId) (hg : w.heap[g]? = some (.cells cur.toArray t (0, 0))) (cs : List Value) (hn : cs.length = Nat.min sLen dLen)
    (hpos : 0 < cs.length → dp = some ⟨g, off, none⟩ ∧ ∃ ad, sp = some ad ∧ ∀ j v, cs[j]? = some v → w.cell? (ad.add j) = some v)
    (hfit : off + cs.length ≤ cur.length) (h1 : ∀ v ∈ cs, v.oneCell' = true)
    (h : ∀ w', w'.heap[g]? = some (.cells (splice cur off cs).toArray t (0, 0)) → Only (fun k => k = g) w w' → K (a.put o.dst (goInt cs.length)) w') :
    if Region.wanted o (yielded ops a.tmps) = true then Oper.wp P o a w K Q else E := by
  have hw : Region.wanted o (yielded ops a.tmps) = true := by simp [Region.wanted, hgd]
  rw [if_pos hw]
  by_cases h0 : cs.length = 0
  · obtain rfl : cs = [] := List.eq_nil_of_length_eq_zero h0
    have hrun := run_copy_none (P := P) w dT sT o.type elem dp sp dLen dCap sLen sCap hu hsz (by simpa using hn.symm)
    unfold Oper.wp
    simp [execOp, ho, resolve, invoke, builtin, hd, hs, hrun, Result.andThen]
    exact h w (by simpa [splice] using hg) (Only.refl _ _)
  · obtain ⟨rfl, ad, rfl, hsrc⟩ := hpos (by omega)
    have hrun := run_copy_row (P := P) w dT sT o.type elem g off dLen dCap ad sLen sCap cur.toArray t cs hu hsz hg hn hsrc (by simpa using hfit) h1
    unfold Oper.wp
    simp [execOp, ho, resolve, invoke, builtin, hd, hs, hrun, Result.andThen]
    exact h _ (by simpa [splice] using setRow_heap w g _ _ t _ hg) ⟨rfl, rfl, rfl, by simp [World.setRow], fun k _ hk => setRow_other w g k _ hk⟩

set_option maxRecDepth 100000 in
set_option maxHeartbeats 2000000 in
theorem restart_any (F : Nat → Prop) (b : Nat) (st : Dk) (m : Nat) (keep torn : Int) (w : World) (h : DiskAt w F b st) (hf : Fine st m) :
    Calls Try.prog 20 #[.pointer (some ⟨b, 0, none⟩), .int .i64 keep, .int .i64 torn] w fun e w' => e = .returned (.int .i64 0) ∧ DiskAt w' F b (restarted st keep torn) ∧ Only F w w' := by
  suffices hh : ∀ F : Nat → Prop, (∀ k, F k → k < w.heap.size) → DiskAt w F b st → Calls Try.prog 20 #[.pointer (some ⟨b, 0, none⟩), .int .i64 keep, .int .i64 torn] w fun e w' => e = .returned (.int .i64 0) ∧ DiskAt w' F b (restarted st keep torn) ∧ Only F w w' by
    exact (hh _ (fun k hk => hk.2) h.strict).mono fun e w' ⟨h1, h2, h3⟩ => ⟨h1, h2.mono (fun k hk => hk.1), h3.mono (fun k _ hk => hk.1)⟩
  clear h F
  intro F hF h
  have HFS := Lib.hid hF; clear hF
  obtain ⟨gs, aw, cw, c0, c1, c2, c3, c4, fz⟩ := h.cells
  have hsl := h.2.2.2.1
  obtain ⟨hbg, hFg, hgh, hrow, hblk⟩ := h.view c0 c1
  have hcap : st.wait.length ≤ cw := by
    obtain ⟨_, _, hr⟩ := hrow
    rcases hr with ⟨e, _⟩ | ⟨g, off, cap, cur, e, _, _, h1, _⟩
    · injection e; omega
    · injection e; simp only [List.length_map] at h1; omega
  have hFb := h.2.2.1
  have hm := hf.small
  have hwm := hf.wait
  have H := Lib.hid h; clear h
  have HF := Lib.hid hf; clear hf
  have HR := Lib.hid hrow; have HB := Lib.hid hblk; clear hrow hblk hgh
  go_enter Try.func20, Try.ntmps20
  go_upto_region 5 with (fail)
  have hke : (if (st.wait.length : Int) < (if keep < 0 then (0 : Int) else keep) then (st.wait.length : Int) else if keep < 0 then 0 else keep) = ((kept st keep : Nat) : Int) := by
    unfold kept; split <;> split <;> omega
  rw [hke]
  clear hke
  generalize (if keep < 0 then (0 : Int) else keep) = q12
  have hkl := kept_le st keep
  have hrs : restarted st keep torn = { sure := tornS (settled st.sure (st.wait.take (kept st keep))) st.wait[kept st keep]? (cut64 torn), wait := [], ops := st.ops, armed := 0, off := false } := rfl
  have HRS := Lib.hid hrs; clear hrs
  generalize kept st keep = kp at *
  by_cases hlt : kp < st.wait.length
  · have e1 : decide ((kp : Int) < (st.wait.length : Int)) = true := by simpa using hlt
    obtain ⟨gw, off, rfl, _, hgw, hrg, _⟩ := HR.out.at_ (k := kp) (by simpa using hlt) (by decide)
    have hrg' : w.rangeAt gw (off + kp * 65) (wr1 st.wait[kp]) := by simpa using hrg
    have HRG' := Lib.hid hrg'; clear hrg hrg'
    have hpl : st.wait[kp].2.length = 64 := H.out.2.1 _ (List.getElem_mem hlt)
    have hwl' : (wr1 st.wait[kp]).length = 65 := by simp [wr1, u8s_len', hpl]
    have HPL := Lib.hid hpl; have HWL := Lib.hid hwl'; clear hpl hwl'
    obtain ⟨hx0, hx1⟩ := HF.out.ix _ (List.getElem_mem hlt)
    have hz := zero_write
    have hzn := zeroW_ne
    have hst := store_boxW w st.wait[kp] HPL.out
    have hwo : st.wait[kp]? = some st.wait[kp] := List.getElem?_eq_getElem hlt
    have HWO := Lib.hid hwo; clear hwo
    go_upto_region 6 with (fail)
    refine wp_region_lit ?_
    iterate 6 (refine wpList_plain rfl fun K hK => ?_; go_simp; refine hK _ _ ?_; clear hK K)
    refine wpList_load_mid rfl 83 (.tmp 31) rfl gw (off + kp * 65) (by rfl) (wr1 st.wait[kp]) _ HRG'.out Try.underlying83 rfl (by rw [sizeW, HWL.out]) ?_
    go_upto_region 7 with (fail)
    have hwa : w.heap.size < (w.alloc (.cells (wr1 st.wait[kp]).toArray 83)).heap.size := by simp
    generalize hwb : w.alloc (.cells (wr1 st.wait[kp]).toArray 83) = wb at hwa
    have OB : Only (fun _ => False) w wb := by rw [← hwb]; exact (Only.refl _ w).alloc _
    have hnew : wb.heap[w.heap.size]? = some (.cells (wr1 st.wait[kp]).toArray 83 (0, 0)) := by rw [← hwb]; exact heap_new w _
    have HNEW := Lib.hid hnew; have HOB := Lib.hid OB; clear hnew OB hwb hst hz hzn
    clear c0 c1 c2 c3 c4 fz
    go_wp2_with fail
    refine (settle_any F b st kp wb (H.out.only HOB.out (fun _ _ _ h => h)) (by omega) (by omega) HF.out.ix).mono ?_
    rintro e w2 ⟨rfl, hD, hO⟩
    obtain ⟨gs2, aw2, cw2, c0, c1, c2, c3, c4, fz⟩ := hD.cells
    obtain ⟨hbg2, hFg2, hgh2, hrow2, hblk2⟩ := hD.view c0 c1
    have hbx : w2.heap[w.heap.size]? = some (.cells (wr1 st.wait[kp]).toArray 83 (0, 0)) := by
      rw [hO.block _ hwa (fun h => Nat.lt_irrefl _ (HFS.out _ h))]; exact HNEW.out
    have g1 : w2.cell? ⟨w.heap.size, 0, none⟩ = some (.int .i64 st.wait[kp].1) := by simp [World.cell?, hbx, wr1]
    have hrx := range_of_block hbx
    have HRX := Lib.hid hrx; clear hrx hbx
    have hsl2 : (settleD st kp).sure.length = st.sure.length := settled_len _ _
    rw [hsl2] at c0
    have HSL := Lib.hid hsl2; clear hsl2
    have HG := Lib.hid hgh2; have HD := Lib.hid hD; have HO2 := Lib.hid hO
    clear hgh2 hrow2 hblk2 hD hO
    generalize hIX : st.wait[kp].1 = ix at *
    have HIX := Lib.hid hIX; clear hIX
    clear c1 c2 c3 c4
    go_upto_region 10 with (fail)
    obtain ⟨t, ht, htc⟩ : ∃ t : Nat, t ≤ 64 ∧ cut64 torn = t := ⟨_, cut64_le torn, rfl⟩
    have hcs : torn < 0 ∧ t = 0 ∨ torn = (t : Int) ∨ 64 < torn ∧ t = 64 := by unfold cut64 at htc; omega
    have g0 := c0
    have hx2 : w.heap.size < w2.drew.heap.size := Nat.lt_of_lt_of_le hwa HO2.out.size
    have hb2 : b < w2.drew.heap.size := World.block_lt_of_cell? w2 _ c0
    have hne2 : w.heap.size ≠ gs2 := fun e => Nat.lt_irrefl _ (HFS.out w.heap.size (e ▸ hFg2))
    have hpl6 : (u8s st.wait[kp].2).length = 64 := by rw [u8s_len', HPL.out]
    have a1 : ((u8s st.wait[kp].2).take t).length = Nat.min t 64 := by rw [List.length_take, hpl6]
    have a2 : 0 < ((u8s st.wait[kp].2).take t).length → ∃ ad, (some ⟨w.heap.size, 1, none⟩ : Option Addr) = some ad ∧ ∀ j v, ((u8s st.wait[kp].2).take t)[j]? = some v → w2.drew.cell? (ad.add j) = some v := by
      intro _
      refine ⟨_, rfl, fun j v hv => ?_⟩
      rw [addr_add]
      have hv' : (u8s st.wait[kp].2)[j]? = some v := by
        rw [List.getElem?_take] at hv
        by_cases hj : j < t
        · rw [if_pos hj] at hv; exact hv
        · rw [if_neg hj] at hv; cases hv
      have := HRX.out (j + 1) v (by simpa [wr1] using hv')
      simpa [Nat.add_comm] using this
    have hix : ix.toNat < (settleD st kp).sure.length := by rw [HSL.out]; omega
    have hsure64 : ∀ r ∈ (settleD st kp).sure, r.length = 64 := HD.out.1
    have a3 : ix.toNat * 64 + ((u8s st.wait[kp].2).take t).length ≤ (((settleD st kp).sure).map u8s).flatten.length := by
      rw [flat_len (size := 64) (by intro x hx; obtain ⟨y, hy, rfl⟩ := List.mem_map.1 hx; rw [u8s_len']; exact hsure64 y hy), List.length_map, List.length_take, hpl6]; omega
    have a4 : ∀ v ∈ (u8s st.wait[kp].2).take t, v.oneCell' = true := fun v hv => u8s_one v (List.mem_of_mem_take hv)
    have a5 : ∀ r ∈ (settleD st kp).sure.set ix.toNat (st.wait[kp].2.take t ++ ((settleD st kp).sure.getD ix.toNat []).drop t), r.length = 64 := by
      intro r hr
      rcases List.mem_or_eq_of_mem_set hr with h | h
      · exact hsure64 r h
      · rw [h, List.length_append, List.length_take, List.length_drop, HPL.out, List.getD_eq_getElem?_getD, List.getElem?_eq_getElem hix, Option.getD_some, hsure64 _ (List.getElem_mem _)]; omega
    have a6 : ((settleD st kp).sure.set ix.toNat (st.wait[kp].2.take t ++ ((settleD st kp).sure.getD ix.toNat []).drop t)).length = (settleD st kp).sure.length := List.length_set
    have hsb := splice_block hsure64 hix HPL.out ht
    have A1 := Lib.hid a1; have A2 := Lib.hid a2; have A3 := Lib.hid a3; have A4 := Lib.hid a4; have A5 := Lib.hid a5; have A6 := Lib.hid a6; have HSB := Lib.hid hsb
    have hfin : restarted st keep torn = { settleD st kp with sure := (settleD st kp).sure.set ix.toNat (st.wait[kp].2.take t ++ ((settleD st kp).sure.getD ix.toNat []).drop t), off := false, armed := 0 } := by
      rw [HRS.out, HWO.out, htc]
      simp only [tornS, HIX.out]
      rfl
    have HFIN := Lib.hid hfin; clear hfin htc
    clear hpl6 a1 a2 a3 a4 a5 a6 hsb hix hsure64
    rcases hcs with ⟨h1, rfl⟩ | rfl | ⟨h1, rfl⟩
    rotate_left
    · have i1 : ¬ ((t : Int) < 0) := by omega
      have i2 : ¬ ((64 : Int) < (t : Int)) := by omega
      have i3 : (0 : Int) ≤ (t : Int) := by omega
      have i4 : (t : Int) ≤ 64 := by omega
      go_region_held3 (fun w' => w'.cell? ⟨b, 0, none⟩ = some (.slice (some ⟨gs2, 0, none⟩) st.sure.length st.sure.length) ∧ w'.cell? ⟨w.heap.size, 0, none⟩ = some (.int .i64 ix)) (first | exact ⟨g0, g1⟩ | exact ⟨(cell_only ho9 (a := ⟨b, 0, none⟩) hb2 (fun e => hbg2 e)).trans g0, (cell_only ho9 (a := ⟨w.heap.size, 0, none⟩) hx2 (fun e => hne2 e)).trans g1⟩) ((refine step_copy_only (o := ⟨some 55, _, _, _, _, _⟩) rfl (.tmp 47) (.tmp 54) 22 22 (by rfl) 5 Try.underlying22 sizeB (some ⟨gs2, ix.toNat * 64, none⟩) (some ⟨w.heap.size, 1, none⟩) 64 64 t 64 (by rfl) (by rfl) gs2 (ix.toNat * 64) _ 81 HG.out ((u8s st.wait[kp].2).take t) (A1.out) (fun hp => ⟨rfl, A2.out hp⟩) (A3.out) (A4.out) ?_; intro w9 h9 ho9))
      rw [HSB.out] at h9
      obtain ⟨k1, k2⟩ := HD.out.putSure (w := w2) (w' := w9) g0 ⟨ho9.os, ho9.tape, ho9.output, ho9.size, ho9.block⟩ _ A5.out A6.out h9
      have hfz9 : ∀ o, w9.frozen? ⟨b, o, none⟩ = false := by
        obtain ⟨_, _, _, _, _, _, _, _, f⟩ := k1.cells
        exact f
      obtain ⟨_, _, _, _, _, _, c3', c4', _⟩ := k1.cells
      have K1 := Lib.hid k1; have K2 := Lib.hid k2; clear k1 k2 h9 ho9
      go_wp2
      go_ret
      rw [HFIN.out]
      exact ⟨rfl, (K1.out.setOff false).setArmed 0, (((((HOB.out.mono (T := F) (fun _ _ h => h.elim)).trans HO2.out).trans K2.out).setCell (p := ⟨b, 4, none⟩) (.inl hFb) _).setCell (p := ⟨b, 3, none⟩) (.inl hFb) _)⟩
    · have i1 : ¬ (torn < 0) := by omega
      have i3 : (0 : Int) ≤ torn := by omega
      go_region_held3 (fun w' => w'.cell? ⟨b, 0, none⟩ = some (.slice (some ⟨gs2, 0, none⟩) st.sure.length st.sure.length) ∧ w'.cell? ⟨w.heap.size, 0, none⟩ = some (.int .i64 ix)) (first | exact ⟨g0, g1⟩ | exact ⟨(cell_only ho9 (a := ⟨b, 0, none⟩) hb2 (fun e => hbg2 e)).trans g0, (cell_only ho9 (a := ⟨w.heap.size, 0, none⟩) hx2 (fun e => hne2 e)).trans g1⟩) ((refine step_copy_only (o := ⟨some 55, _, _, _, _, _⟩) rfl (.tmp 47) (.tmp 54) 22 22 (by rfl) 5 Try.underlying22 sizeB (some ⟨gs2, ix.toNat * 64, none⟩) (some ⟨w.heap.size, 1, none⟩) 64 64 64 64 (by rfl) (by rfl) gs2 (ix.toNat * 64) _ 81 HG.out ((u8s st.wait[kp].2).take 64) (A1.out) (fun hp => ⟨rfl, A2.out hp⟩) (A3.out) (A4.out) ?_; intro w9 h9 ho9))
      rw [HSB.out] at h9
      obtain ⟨k1, k2⟩ := HD.out.putSure (w := w2) (w' := w9) g0 ⟨ho9.os, ho9.tape, ho9.output, ho9.size, ho9.block⟩ _ A5.out A6.out h9
      have hfz9 : ∀ o, w9.frozen? ⟨b, o, none⟩ = false := by
        obtain ⟨_, _, _, _, _, _, _, _, f⟩ := k1.cells
        exact f
      obtain ⟨_, _, _, _, _, _, c3', c4', _⟩ := k1.cells
      have K1 := Lib.hid k1; have K2 := Lib.hid k2; clear k1 k2 h9 ho9
      go_wp2
      go_ret
      rw [HFIN.out]
      exact ⟨rfl, (K1.out.setOff false).setArmed 0, (((((HOB.out.mono (T := F) (fun _ _ h => h.elim)).trans HO2.out).trans K2.out).setCell (p := ⟨b, 4, none⟩) (.inl hFb) _).setCell (p := ⟨b, 3, none⟩) (.inl hFb) _)⟩
    · go_region_held3 (fun w' => w'.cell? ⟨b, 0, none⟩ = some (.slice (some ⟨gs2, 0, none⟩) st.sure.length st.sure.length) ∧ w'.cell? ⟨w.heap.size, 0, none⟩ = some (.int .i64 ix)) (first | exact ⟨g0, g1⟩ | exact ⟨(cell_only ho9 (a := ⟨b, 0, none⟩) hb2 (fun e => hbg2 e)).trans g0, (cell_only ho9 (a := ⟨w.heap.size, 0, none⟩) hx2 (fun e => hne2 e)).trans g1⟩) ((refine step_copy_only (o := ⟨some 55, _, _, _, _, _⟩) rfl (.tmp 47) (.tmp 54) 22 22 (by rfl) 5 Try.underlying22 sizeB (some ⟨gs2, ix.toNat * 64, none⟩) (some ⟨w.heap.size, 1, none⟩) 64 64 0 64 (by rfl) (by rfl) gs2 (ix.toNat * 64) _ 81 HG.out ((u8s st.wait[kp].2).take 0) (A1.out) (fun hp => ⟨rfl, A2.out hp⟩) (A3.out) (A4.out) ?_; intro w9 h9 ho9))
      rw [HSB.out] at h9
      obtain ⟨k1, k2⟩ := HD.out.putSure (w := w2) (w' := w9) g0 ⟨ho9.os, ho9.tape, ho9.output, ho9.size, ho9.block⟩ _ A5.out A6.out h9
      have hfz9 : ∀ o, w9.frozen? ⟨b, o, none⟩ = false := by
        obtain ⟨_, _, _, _, _, _, _, _, f⟩ := k1.cells
        exact f
      obtain ⟨_, _, _, _, _, _, c3', c4', _⟩ := k1.cells
      have K1 := Lib.hid k1; have K2 := Lib.hid k2; clear k1 k2 h9 ho9
      go_wp2
      go_ret
      rw [HFIN.out]
      exact ⟨rfl, (K1.out.setOff false).setArmed 0, (((((HOB.out.mono (T := F) (fun _ _ h => h.elim)).trans HO2.out).trans K2.out).setCell (p := ⟨b, 4, none⟩) (.inl hFb) _).setCell (p := ⟨b, 3, none⟩) (.inl hFb) _)⟩
  · have hke : kp = st.wait.length := by omega
    subst hke
    have e1 : decide ((st.wait.length : Int) < (st.wait.length : Int)) = false := by simp
    have hwo : st.wait[st.wait.length]? = none := List.getElem?_eq_none (Nat.le_refl _)
    have HWO := Lib.hid hwo; clear hwo
    go_wp2_with fail
    refine (settle_any F b st st.wait.length w H.out (Nat.le_refl _) (by omega) HF.out.ix).mono ?_
    rintro e w2 ⟨rfl, hD, hO⟩
    clear c0 c1 c2 c3 c4 fz
    obtain ⟨gs2, aw2, cw2, c0, c1, c2, c3, c4, fz⟩ := hD.cells
    have HD := Lib.hid hD; have HO2 := Lib.hid hO; clear hD hO
    go_wp2
    go_ret
    rw [HRS.out, HWO.out]
    exact ⟨rfl, by
      have := (HD.out.setOff false).setArmed 0
      rw [show settleD st st.wait.length = { st with sure := settled st.sure (st.wait.take st.wait.length), wait := [] } from rfl] at this
      exact this, ((HO2.out.setCell (p := ⟨b, 4, none⟩) (.inl hFb) _).setCell (p := ⟨b, 3, none⟩) (.inl hFb) _)⟩
end Go.Proofs.Ytlkglhgndfhjeaa
