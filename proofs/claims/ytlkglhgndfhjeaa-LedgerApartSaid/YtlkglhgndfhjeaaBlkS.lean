/- Package block: settle, Sync, Restart. -/
import Derived.Test.YtlkglhgndfhjeaaBlkW
import Derived.Deep.RegionHeld3
namespace Go.Proofs.Ytlkglhgndfhjeaa
open Go Go.RowKit
set_option linter.unusedVariables false
set_option linter.unusedSimpArgs false

def settled (s : List (List UInt8)) (l : List (Int × List UInt8)) : List (List UInt8) := l.foldl (fun s p => s.set p.1.toNat p.2) s
theorem settled_len (l : List (Int × List UInt8)) : ∀ s, (settled s l).length = s.length := by
  induction l with
  | nil => intro s; rfl
  | cons p l ih => intro s; simp only [settled, List.foldl_cons] at ih ⊢; rw [ih]; simp
theorem settled_step (s : List (List UInt8)) (l : List (Int × List UInt8)) (k : Nat) (h : k < l.length) : settled s (l.take (k + 1)) = (settled s (l.take k)).set l[k].1.toNat l[k].2 := by
  unfold settled
  rw [List.take_succ_eq_append_getElem h, List.foldl_append]
  rfl
theorem store_boxW (w : World) (p : Int × List UInt8) (hp : p.2.length = 64) : (storeCells ⟨w.heap.size, 0, none⟩ (wr1 p) 0).run Try.prog (w.alloc (.cells zeroW 83)) = .ok () (w.alloc (.cells (wr1 p).toArray 83)) := by
  have h := run_storeCells_new (P := Try.prog) w 83 zeroW (wr1 p).toArray (by rw [sizeW]; simp [wr1, u8s_len', hp]) (by simp [zeroW, wr1, u8s_len', hp, zeros64]) (by rw [Array.all_eq_true_iff_forall_mem]; intro v hv; exact wr1_one v (by simpa using hv))
  simpa using h
def settleD (st : Dk) (n : Nat) : Dk := { st with sure := settled st.sure (st.wait.take n), wait := [] }

set_option maxRecDepth 100000 in
set_option maxHeartbeats 2000000 in
theorem settle_any (F : Nat → Prop) (b : Nat) (st : Dk) (n : Nat) (w : World) (h : DiskAt w F b st) (hn : n ≤ st.wait.length) (hw : st.wait.length ≤ 1000000000) (hix : ∀ p ∈ st.wait, 0 ≤ p.1 ∧ p.1 < st.sure.length) :
    Calls Try.prog 48 #[.pointer (some ⟨b, 0, none⟩), .int .i64 n] w fun e w' => e = .returned (.tuple #[]) ∧ DiskAt w' F b (settleD st n) ∧ Only F w w' := by
  obtain ⟨gs, aw, cw, c0, c1, c2, c3, c4, fz⟩ := h.cells
  have hsl := h.2.2.2.1
  obtain ⟨hbg, hFg, hgh, hrow, hblk⟩ := h.view c0 c1
  have hcap : st.wait.length ≤ cw := by
    obtain ⟨_, _, hr⟩ := hrow
    rcases hr with ⟨e, _⟩ | ⟨g, off, cap, cur, e, _, _, h1, _⟩
    · injection e; omega
    · injection e; simp only [List.length_map] at h1; omega
  have hFb := h.2.2.1
  have H := Lib.hid h; clear h
  have HR := Lib.hid hrow; have HB := Lib.hid hblk; have HX := Lib.hid hix; clear hrow hblk hgh hix
  go_enter Try.func48, Try.ntmps48
  go_wp2_with fail
  go_loopw [13] (fun v wr => ∃ k : Nat, v = .int .i64 k ∧ k ≤ n ∧ Hid (DiskAt wr F b { st with sure := settled st.sure (st.wait.take k) }) ∧ Hid (Only F w wr) ∧ wr.cell? ⟨b, 0, none⟩ = some (.slice (some ⟨gs, 0, none⟩) st.sure.length st.sure.length) ∧ wr.cell? ⟨b, 1, none⟩ = some (.slice aw st.wait.length cw)) (fun v _ => n - (intOf v).toNat)
  case atStart => exact ⟨0, by simp, by omega, Lib.hid (by simpa [settled] using H.out), Lib.hid (by (repeat' (first | (with_reducible exact Only.refl _ _) | (with_reducible assumption) | (with_reducible refine Only.drew ?_) | (with_reducible refine Only.drewN ?_ _) | (with_reducible refine Only.alloc ?_ _) | (with_reducible refine Only.setCell ?_ ?_ _) | (first | exact Or.inl rfl | exact Or.inl (Or.inl rfl) | exact Or.inl (Or.inr rfl) | (simp; omega) | (simp; done) | omega)))), by assumption, by assumption⟩
  case round =>
    obtain ⟨k, rfl, hk, HD, HO, d0, d1⟩ := hrel
    by_cases hkn : k < n
    · have hkl : k < st.wait.length := by omega
      have e1 : decide ((k : Int) < (n : Int)) = true := by simpa using hkn
      obtain ⟨hbg', hFg', hgh', hrow', hblk'⟩ := HD.out.view d0 d1
      obtain ⟨gw, off, rfl, _, hgw, hrg, _⟩ := hrow'.at_ (k := k) (by simpa using hkl) (by decide)
      have HW' := Lib.hid hrow'; have HB' := Lib.hid hblk'; have HG' := Lib.hid hgh'; clear hrow' hblk' hgh'
      have hrg' : wr.rangeAt gw (off + k * 65) (wr1 st.wait[k]) := by simpa using hrg
      have HRG := Lib.hid hrg'; clear hrg hrg'
      have hpl : st.wait[k].2.length = 64 := HD.out.2.1 _ (List.getElem_mem hkl)
      have hwl : (wr1 st.wait[k]).length = 65 := by simp [wr1, u8s_len', hpl]
      have HPL := Lib.hid hpl; have HWL := Lib.hid hwl; clear hpl hwl
      obtain ⟨hx0, hx1⟩ := HX.out _ (List.getElem_mem hkl)
      have hz := zero_write
      have hzn := zeroW_ne
      have hst := store_boxW wr st.wait[k] HPL.out
      go_upto_region 2 with (fail)
      refine wp_region_lit ?_
      refine wpList_plain rfl fun K hK => ?_
      go_simp
      refine hK _ _ ?_
      clear hK K
      refine wpList_load_mid rfl 83 (.tmp 15) rfl gw (off + k * 65) (by rfl) (wr1 st.wait[k]) _ HRG.out Try.underlying83 rfl (by rw [sizeW, HWL.out]) ?_
      go_upto_region 3 with (fail)
      have hwa : wr.heap.size < (wr.alloc (.cells (wr1 st.wait[k]).toArray 83)).heap.size := by simp
      generalize hwb : wr.alloc (.cells (wr1 st.wait[k]).toArray 83) = wb at hwa
      have OB : Only (fun _ => False) wr wb := by rw [← hwb]; exact (Only.refl _ wr).alloc _
      have hb9 : b < wr.heap.size := World.block_lt_of_cell? wr _ d0
      have g0 : wb.cell? ⟨b, 0, none⟩ = some (.slice (some ⟨gs, 0, none⟩) st.sure.length st.sure.length) := by rw [cell_only OB (a := ⟨b, 0, none⟩) hb9 (fun h => h)]; exact d0
      have hnew : wb.heap[wr.heap.size]? = some (.cells (wr1 st.wait[k]).toArray 83 (0, 0)) := by rw [← hwb]; exact heap_new wr _
      have g1 : wb.cell? ⟨wr.heap.size, 0, none⟩ = some (.int .i64 st.wait[k].1) := by simp [World.cell?, hnew, wr1]
      have g2 : wb.rangeAt wr.heap.size 1 (u8s st.wait[k].2) := by
        intro j v hv
        simp only [World.cell?, hnew]
        simp only [wr1, List.getElem?_toArray]
        rw [Nat.add_comm 1 j, List.getElem?_cons_succ]; exact hv
      have g3 : wb.there gs (st.wait[k].1.toNat * 64) 64 := by
        have hl : ∀ x ∈ (settled st.sure (List.take k st.wait)).map u8s, x.length = 64 := by
          intro x hx
          obtain ⟨y, hy, rfl⟩ := List.mem_map.1 hx
          rw [u8s_len']; exact HD.out.1 y hy
        have hsz : ((settled st.sure (List.take k st.wait)).map u8s).flatten.length = st.sure.length * 64 := by rw [flat_len hl, List.length_map, settled_len]
        have hgl := (Array.getElem?_eq_some_iff.1 HG'.out).1
        intro j hj
        have hlt : st.wait[k].1.toNat * 64 + j < ((settled st.sure (List.take k st.wait)).map u8s).flatten.length := by rw [hsz]; omega
        constructor
        · rw [cell_only OB (a := ⟨gs, _, none⟩) hgl (fun h => h)]
          simp only [World.cell?, HG'.out]
          rw [List.getElem?_toArray, List.getElem?_eq_getElem hlt]; rfl
        · rw [frozen_only OB (a := ⟨gs, _, none⟩) hgl (fun h => h)]
          simp [World.frozen?, HG'.out]
      have hu := Try.underlying81
      have hi : (Try.prog.info? 81).map (·.size) = some (u8s st.wait[k].2).length := by rw [u8s_len', HPL.out]; kernel_rfl
      have h1 : ∀ v ∈ u8s st.wait[k].2, v.oneCell' = true := u8s_one
      have hll : (u8s st.wait[k].2).length = 64 := by rw [u8s_len', HPL.out]
      generalize hIX : st.wait[k].1 = ix at *
      generalize hPP : u8s st.wait[k].2 = pp at *
      clear hst hz hzn
      have hgs9 : gs < wr.heap.size := (Array.getElem?_eq_some_iff.1 HG'.out).1
      have hb9' := OB.size
      have hOs := setCells_only gs pp (ix.toNat * 64) wb.drew
      have hS : (wb.drew.setCells gs (ix.toNat * 64) pp).cell? ⟨b, 0, none⟩ = some (.slice (some ⟨gs, 0, none⟩) st.sure.length st.sure.length) ∧ (wb.drew.setCells gs (ix.toNat * 64) pp).cell? ⟨wr.heap.size, 0, none⟩ = some (.int .i64 ix) ∧ (wb.drew.setCells gs (ix.toNat * 64) pp).rangeAt wr.heap.size 1 pp ∧ (wb.drew.setCells gs (ix.toNat * 64) pp).there gs (ix.toNat * 64) 64 := by
        refine ⟨?_, ?_, ?_, ?_⟩
        · rw [cell_only hOs (a := ⟨b, 0, none⟩) (by show b < wb.heap.size; omega) (fun e => hbg e)]; exact g0
        · rw [cell_only hOs (a := ⟨wr.heap.size, 0, none⟩) (by show wr.heap.size < wb.heap.size; exact hwa) (fun (e : wr.heap.size = gs) => by omega)]; exact g1
        · exact World.rangeAt_setCells_apart ((World.rangeAt_drew _ _ _ _).2 g2) _ _ _ (.inl (by omega))
        · exact World.there_setCells ((World.there_drew _ _ _ _).2 g3) _ _ _
      have HS := Lib.hid hS; have HOS := Lib.hid hOs
      clear hOs hS
      go_region_held3 (fun w' => w'.cell? ⟨b, 0, none⟩ = some (.slice (some ⟨gs, 0, none⟩) st.sure.length st.sure.length) ∧ w'.cell? ⟨wr.heap.size, 0, none⟩ = some (.int .i64 ix) ∧ w'.rangeAt wr.heap.size 1 pp ∧ w'.there gs (ix.toNat * 64) 64) (first | go_keep_ranges | exact HS.out) (fail)
      have hD3 : DiskAt (wb.drew.setCells gs (ix.toNat * 64) pp) F b { st with sure := settled st.sure (st.wait.take (k + 1)) } ∧ Only F w (wb.drew.setCells gs (ix.toNat * 64) pp) := by
        have q := (HD.out.only OB.drew (fun _ _ _ h => h)).setSure (w := wb.drew) g0 ix.toNat st.wait[k].2 (by show ix.toNat < (settled st.sure (st.wait.take k)).length; rw [settled_len]; omega) HPL.out
        rw [hPP] at q
        rw [settled_step _ _ _ hkl, hIX]
        exact ⟨q.1, (HO.out.trans' (OB.drew.mono (T := F) (fun _ _ h => h.elim)) (fun _ _ h => h)).trans' q.2 (fun _ _ h => h)⟩
      have H3 := Lib.hid hD3.1; have H4 := Lib.hid hD3.2
      have e0 : (wb.drew.setCells gs (ix.toNat * 64) pp).cell? ⟨b, 0, none⟩ = some (.slice (some ⟨gs, 0, none⟩) st.sure.length st.sure.length) := HS.out.1
      have e1' : (wb.drew.setCells gs (ix.toNat * 64) pp).cell? ⟨b, 1, none⟩ = some (.slice (some ⟨gw, off, none⟩) st.wait.length cw) := by
        rw [cell_only HOS.out (a := ⟨b, 1, none⟩) (by show b < wb.heap.size; omega) (fun e => hbg e)]
        show wb.cell? _ = _
        rw [cell_only OB (a := ⟨b, 1, none⟩) hb9 (fun h => h)]; exact d1
      generalize wb.drew.setCells gs (ix.toNat * 64) pp = w9 at *
      clear hD3 g0 g1 g2 g3 hu hi h1 hll
      go_wp2_with fail
      go_roundw
      case rel => exact ⟨k + 1, by simp [go_sem], by omega, H3, H4, e0, e1'⟩
      case measure => simp [intOf]; omega
    · have hke : k = n := by omega
      subst hke
      have e1 : decide ((k : Int) < (k : Int)) = false := by simp
      have fz' : ∀ o, wr.frozen? ⟨b, o, none⟩ = false := by
        obtain ⟨_, _, _, _, _, _, _, _, f⟩ := HD.out.cells
        exact f
      go_wp2
      go_end0
      exact ⟨rfl, HD.out.setNil, (HO.out).setCell (p := ⟨b, 1, none⟩) (.inl hFb) _⟩
end Go.Proofs.Ytlkglhgndfhjeaa
