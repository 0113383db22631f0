/- Package block: Read. -/
import Derived.Test.YtlkglhgndfhjeaaBlkV
namespace Go.Proofs.Ytlkglhgndfhjeaa
open Go Go.RowKit
set_option linter.unusedVariables false
set_option linter.unusedSimpArgs false

theorem zero_B (w : World) : (zeroValue 81).run Try.prog w = .ok (.agg zeroB) w := by kernel_rfl
theorem zeroB_ne : (zeroB = #[]) = False := by simp [zeroB, u8s, zeros64]
theorem sizeBB : (Try.prog.info? 81).map (·.size) = some 64 := by kernel_rfl
theorem store_boxB (w : World) (l : List UInt8) (hl : l.length = 64) : (storeCells ⟨w.heap.size, 0, none⟩ (u8s l) 0).run Try.prog (w.alloc (.cells zeroB 81)) = .ok () (w.alloc (.cells (u8s l).toArray 81)) := by
  have h := run_storeCells_new (P := Try.prog) w 81 zeroB (u8s l).toArray (by rw [sizeBB]; simp [u8s_len', hl]) (by simp [zeroB, u8s_len', hl, zeros64]) (by rw [Array.all_eq_true_iff_forall_mem]; intro v hv; exact u8s_one v (by simpa using hv))
  simpa using h

theorem setCells_whole {w : World} {b : Nat} {cur : Array Value} {e : TypeId} {fr : Nat × Nat} (h : w.heap[b]? = some (.cells cur e fr)) (vs : List Value) (hv : vs.length = cur.size) : (w.setCells b 0 vs).heap[b]? = some (.cells vs.toArray e fr) := by
  obtain ⟨cur', h1, h2, h3⟩ := setCells_heap b vs 0 w cur e fr h
  rw [h1]
  have : cur' = vs.toArray := by
    apply Array.ext_getElem?
    intro j
    rw [h3 j]
    by_cases hj : j < cur.size
    · rw [if_pos (by omega), Nat.sub_zero, List.getElem?_toArray]
    · rw [if_neg (by omega), Array.getElem?_eq_none (by omega), List.getElem?_toArray, List.getElem?_eq_none (by omega)]
  rw [this]
theorem there_of_block {w : World} {b : Nat} {cur : Array Value} {e : TypeId} (h : w.heap[b]? = some (.cells cur e (0, 0))) {o n : Nat} (hn : o + n ≤ cur.size) : w.there b o n := by
  intro j hj
  have hlt : o + j < cur.size := by omega
  constructor
  · simp only [World.cell?, h]
    rw [Array.getElem?_eq_getElem hlt]; rfl
  · simp [World.frozen?, h]
def ReadPost (w : World) (l : List UInt8) (e : Ending) (w' : World) : Prop :=
  ∃ g, w.heap.size ≤ g ∧ e = .returned (.tuple #[.slice (some ⟨g, 0, none⟩) 64 64, .int .i64 0]) ∧ w'.heap[g]? = some (.cells (u8s l).toArray 81) ∧ Only (fun _ => False) w w'

set_option maxRecDepth 100000 in
set_option maxHeartbeats 2000000 in
theorem read_any (F : Nat → Prop) (b : Nat) (st : Dk) (m : Nat) (i : Nat) (w : World) (h : DiskAt w F b st) (hl : lookE st i = 0) (hf : Fine st m) :
    Calls Try.prog 21 #[.pointer (some ⟨b, 0, none⟩), .int .i64 i] w (ReadPost w ((view st).getD i [])) := by
  have hil : i < st.sure.length := by
    unfold lookE at hl
    by_cases h1 : (i : Int) < 0 ∨ (st.sure.length : Int) ≤ i
    · rw [if_pos h1] at hl; cases hl
    · omega
  have h64 := h.1
  have hsl := h.2.2.2.1
  have HL := Lib.hid hl; clear hl
  have HF := Lib.hid hf; clear hf
  have hwl : st.wait.length ≤ 1000000000 := by have := HF.out.wait; have := HF.out.small; omega
  go_enter Try.func21, Try.ntmps21
  go_wp2_with fail
  refine (look_any F b st i _ h).mono ?_
  rintro e w1 ⟨rfl, rfl⟩
  rw [HL.out]
  obtain ⟨gs, aw, cw, c0, c1, c2, c3, c4, fz⟩ := h.cells
  obtain ⟨hbg, hFg, hgh, hrow, hblk⟩ := h.view c0 c1
  have hcap : st.wait.length ≤ cw := by
    obtain ⟨_, _, hr⟩ := hrow
    rcases hr with ⟨e, _⟩ | ⟨g, off, cap, cur, e, _, _, h1, _⟩
    · injection e; omega
    · injection e; simp only [List.length_map] at h1; omega
  have hs64 : (st.sure[i]).length = 64 := h64 _ (List.getElem_mem hil)
  have hrg : w.rangeAt gs (i * 64) (u8s st.sure[i]) := by
    have hl : ∀ x ∈ st.sure.map u8s, x.length = 64 := by
      intro x hx
      obtain ⟨y, hy, rfl⟩ := List.mem_map.1 hx
      rw [u8s_len']; exact h64 y hy
    intro j v hv
    have hj : j < 64 := by have := (List.getElem?_eq_some_iff.1 hv).1; rw [u8s_len'] at this; omega
    simp only [World.cell?, hgh]
    rw [List.getElem?_toArray]
    have hk : i < (st.sure.map u8s).length := by simpa using hil
    have e := congrArg (fun l => l[j]?) (flat_get hl hk)
    simp only [List.getElem?_take, hj, if_true, List.getElem?_drop] at e
    rw [e, List.getElem_map]; exact hv
  have H := Lib.hid h; clear h
  have HR := Lib.hid hrow; have HG := Lib.hid hgh; have HRG := Lib.hid hrg; have H64 := Lib.hid h64; have HS64 := Lib.hid hs64
  clear hrow hblk hgh hrg h64 hs64
  have hz := zero_B
  have hzn := zeroB_ne
  have hst := store_boxB w st.sure[i] HS64.out
  have hi0 : (0 : Int) ≤ (i : Int) := by omega
  have hi1 : (i : Int) < (st.sure.length : Int) := by omega
  have h6 : (u8s st.sure[i]).length = 64 := by rw [u8s_len', HS64.out]
  go_upto_region 4 with (fail)
  refine wp_region_lit ?_
  iterate 6 (refine wpList_plain rfl fun K hK => ?_; go_simp; refine hK _ _ ?_; clear hK K)
  refine wpList_load_mid rfl 81 (.tmp 21) rfl gs (i * 64) (by rfl) (u8s st.sure[i]) _ HRG.out Try.underlying81 rfl (by rw [sizeBB, u8s_len', HS64.out]) ?_
  go_upto_region 5 with (fail)
  have hwa : w.heap.size < (w.alloc (.cells (u8s st.sure[i]).toArray 81)).heap.size := by simp
  generalize hwb : w.alloc (.cells (u8s st.sure[i]).toArray 81) = wb at hwa
  have OB : Only (fun _ => False) w wb := by rw [← hwb]; exact (Only.refl _ w).alloc _
  have hb9 : b < w.heap.size := World.block_lt_of_cell? w _ c0
  have hnew : wb.heap[w.heap.size]? = some (.cells (u8s st.sure[i]).toArray 81 (0, 0)) := by rw [← hwb]; exact heap_new w _
  have HN := Lib.hid hnew; have HOB := Lib.hid OB; clear hnew OB
  have d0 : wb.cell? ⟨b, 0, none⟩ = some (.slice (some ⟨gs, 0, none⟩) st.sure.length st.sure.length) := by rw [cell_only HOB.out (a := ⟨b, 0, none⟩) hb9 (fun h => h)]; exact c0
  have d1 : wb.cell? ⟨b, 1, none⟩ = some (.slice aw st.wait.length cw) := by rw [cell_only HOB.out (a := ⟨b, 1, none⟩) hb9 (fun h => h)]; exact c1
  clear hst h6 c0 c1 c2 c3 c4 fz hz hzn
  have HWB := Lib.hid hwb; clear hwb
  go_wp2_with fail
  go_loopw [28] (fun v wr => ∃ k : Nat, v = .int .i64 k ∧ k ≤ st.wait.length ∧ Hid (Only (fun _ => False) w wr) ∧ Hid (wr.heap[w.heap.size]? = some (.cells (u8s ((settled st.sure (st.wait.take k)).getD i [])).toArray 81 (0, 0)))) (fun v _ => st.wait.length - (intOf v).toNat)
  case atStart => exact ⟨0, by simp, by omega, HOB, Lib.hid (by simpa [settled, hil] using HN.out)⟩
  case round =>
    obtain ⟨k, rfl, hk, HO, HC⟩ := hrel
    by_cases hkl : k < st.wait.length
    · have e1 : decide ((k : Int) < (st.wait.length : Int)) = true := by simpa using hkl
      have hrow' := HR.out.only HO.out (fun _ _ _ h => h)
      obtain ⟨gw, off, rfl, _, hgw, hrg, _⟩ := hrow'.at_ (k := k) (by simpa using hkl) (by decide)
      have hrg' : wr.rangeAt gw (off + k * 65) (wr1 st.wait[k]) := by simpa using hrg
      have HRG' := Lib.hid hrg'; clear hrg hrg' hrow'
      have hpl : st.wait[k].2.length = 64 := H.out.2.1 _ (List.getElem_mem hkl)
      have hwl' : (wr1 st.wait[k]).length = 65 := by simp [wr1, u8s_len', hpl]
      have HPL := Lib.hid hpl; have HWL := Lib.hid hwl'; clear hpl hwl'
      have hx0 := (HF.out.ix _ (List.getElem_mem hkl)).1
      have hwn : w.heap.size < wr.heap.size := (Array.getElem?_eq_some_iff.1 HC.out).1
      have hz := zero_write
      have hzn := zeroW_ne
      have hst := store_boxW wr st.wait[k] HPL.out
      go_upto_region 7 with (fail)
      refine wp_region_lit ?_
      refine wpList_plain rfl fun K hK => ?_
      go_simp
      refine hK _ _ ?_
      clear hK K
      refine wpList_load_mid rfl 83 (.tmp 30) rfl gw (off + k * 65) (by rfl) (wr1 st.wait[k]) _ HRG'.out Try.underlying83 rfl (by rw [sizeW, HWL.out]) ?_
      go_upto_region 8 with (fail)
      have hwa : wr.heap.size < (wr.alloc (.cells (wr1 st.wait[k]).toArray 83)).heap.size := by simp
      generalize hwb : wr.alloc (.cells (wr1 st.wait[k]).toArray 83) = wc at hwa
      have OC : Only (fun _ => False) wr wc := by rw [← hwb]; exact (Only.refl _ wr).alloc _
      have hnew : wc.heap[wr.heap.size]? = some (.cells (wr1 st.wait[k]).toArray 83 (0, 0)) := by rw [← hwb]; exact heap_new wr _
      have g1 : wc.cell? ⟨wr.heap.size, 0, none⟩ = some (.int .i64 st.wait[k].1) := by simp [World.cell?, hnew, wr1]
      have hrx := range_of_block hnew
      have g2 : wc.rangeAt wr.heap.size 1 (u8s st.wait[k].2) := by
        intro j v hv
        have := hrx (j + 1) v (by simpa [wr1] using hv)
        simpa [Nat.add_comm] using this
      have hcc : wc.heap[w.heap.size]? = some (.cells (u8s ((settled st.sure (st.wait.take k)).getD i [])).toArray 81 (0, 0)) := by rw [OC.block _ hwn (fun h => h)]; exact HC.out
      have HG2 := Lib.hid g2; have HOC := Lib.hid OC; have HCC := Lib.hid hcc
      clear hnew hrx g2 OC hcc hz hzn hst hwb
      have hstep := settled_step st.sure st.wait k hkl
      have HST := Lib.hid hstep; clear hstep
      have hslen : (settled st.sure (st.wait.take k)).length = st.sure.length := settled_len _ _
      have HSL := Lib.hid hslen; clear hslen
      generalize hIX : st.wait[k].1 = ix at *
      by_cases he : ix = (i : Int)
      · have e2 : (ix == (i : Int)) = true := by simpa using he
        have HE := Lib.hid he; clear he
        have HIX := Lib.hid hIX; clear hIX
        go_upto_region 9 with (fail)
        refine wp_region_lit ?_
        refine wpList_plain rfl fun K hK => ?_
        go_simp
        refine hK _ _ ?_
        clear hK K
        refine wpList_load_mid rfl 81 (.tmp 36) rfl wr.heap.size 1 (by rfl) (u8s st.wait[k].2) _ HG2.out Try.underlying81 rfl (by rw [sizeBB, u8s_len', HPL.out]) ?_
        refine wpList_store_mid rfl 81 (.tmp 7) (.tmp 37) rfl w.heap.size 0 (u8s st.wait[k].2).toArray (by rfl) (by rfl) (there_of_block HCC.out (by rw [List.size_toArray, List.size_toArray, u8s_len', u8s_len', HPL.out, List.getD_eq_getElem?_getD, List.getElem?_eq_getElem (by rw [HSL.out]; exact hil)]; have := settled_all64 H64.out (fun p hp => H.out.2.1 p (List.mem_of_mem_take hp)) _ (List.getElem_mem (l := settled st.sure (st.wait.take k)) (n := i) (by rw [HSL.out]; exact hil)); simp only [Option.getD_some]; omega)) (by rw [sizeBB, List.size_toArray, u8s_len', HPL.out]) (by rw [Array.all_eq_true_iff_forall_mem]; intro v hv; exact u8s_one v (by simpa using hv)) ?_
        have hw9 : (wc.setCells w.heap.size 0 (u8s st.wait[k].2)).heap[w.heap.size]? = some (.cells (u8s st.wait[k].2).toArray 81 (0, 0)) := setCells_whole HCC.out _ (by
          rw [List.size_toArray, u8s_len', u8s_len', HPL.out, List.getD_eq_getElem?_getD, List.getElem?_eq_getElem (by rw [HSL.out]; exact hil)]
          exact (settled_all64 H64.out (fun p hp => H.out.2.1 p (List.mem_of_mem_take hp)) _ (List.getElem_mem (l := settled st.sure (st.wait.take k)) (n := i) (by rw [HSL.out]; exact hil))).symm)
        have ho9 : Only (fun _ => False) w (wc.setCells w.heap.size 0 (u8s st.wait[k].2)) := (HO.out.trans HOC.out).trans' (setCells_only _ _ _ _) (fun k hk e => by omega)
        have HW9 := Lib.hid hw9; have HO9 := Lib.hid ho9; clear hw9 ho9
        generalize hw9 : wc.setCells w.heap.size 0 (u8s st.wait[k].2) = w9 at HW9 HO9
        clear hw9
        go_wp2_with fail
        go_roundw
        case rel => exact ⟨k + 1, by simp [go_sem], by omega, HO9, Lib.hid (by
          rw [HW9.out, HST.out, HE.out, List.getD_eq_getElem?_getD, Int.toNat_natCast, List.getElem?_set_self (by rw [HSL.out]; exact hil)]; rfl)⟩
        case measure => simp [intOf]; omega
      · have e2 : (ix == (i : Int)) = false := by simpa using he
        have HE := Lib.hid he; clear he
        have HIX := Lib.hid hIX; clear hIX
        go_wp2_with fail
        go_roundw
        case rel => exact ⟨k + 1, by simp [go_sem], by omega, Lib.hid (HO.out.trans HOC.out), Lib.hid (by
          rw [HCC.out, HST.out, List.getD_eq_getElem?_getD, List.getD_eq_getElem?_getD, List.getElem?_set_ne (by have := HE.out; omega)])⟩
        case measure => simp [intOf]; omega
    · have hke : k = st.wait.length := by omega
      subst hke
      have e1 : decide ((st.wait.length : Int) < (st.wait.length : Int)) = false := by simp
      have hfin := HC.out
      rw [List.take_length] at hfin
      have HFIN := Lib.hid hfin; clear hfin
      go_wp2
      go_ret2
      exact ⟨w.heap.size, Nat.le_refl _, rfl, HFIN.out, HO.out⟩
end Go.Proofs.Ytlkglhgndfhjeaa
