/- Package block: Write. -/
import Derived.Test.YtlkglhgndfhjeaaBlk
import Derived.Test.YtlkglhgndfhjeaaStep
import Derived.Laws.CopyOwn
import Derived.Deep.WholeRow
import Derived.Deep.Cut
import Derived.Deep.CutBlock
namespace Go.Proofs.Ytlkglhgndfhjeaa
open Go Go.RowKit
set_option linter.unusedVariables false
set_option linter.unusedSimpArgs false

/-- v is the bytes l, in blocks that are there. -/
def Bytes (w : World) (v : Value) (l : List UInt8) : Prop :=
  ∃ a cap, v = .slice a l.length cap ∧ l.length ≤ cap ∧ cap ≤ 9223372036854775807 ∧
    (0 < l.length → ∃ b off, a = some ⟨b, off, none⟩ ∧ b < w.heap.size ∧ w.rangeAt b off (u8s l))
theorem Bytes.only {S : Nat → Prop} {w w' : World} {v : Value} {l : List UInt8} (h : Bytes w v l) (ho : Only S w w') (hS : 0 < l.length → ∀ k, v.ownBlock = some k → ¬ S k) : Bytes w' v l := by
  obtain ⟨a, cap, rfl, h1, h2, h3⟩ := h
  refine ⟨a, cap, rfl, h1, h2, fun hp => ?_⟩
  obtain ⟨b, off, rfl, hb, hr⟩ := h3 hp
  refine ⟨b, off, rfl, Nat.lt_of_lt_of_le hb ho.size, fun j v hv => ?_⟩
  have := hr j v hv
  unfold World.cell? at this ⊢
  rw [ho.block _ hb (hS hp b rfl)]; exact this
theorem Bytes.lt {w : World} {v : Value} {l : List UInt8} (h : Bytes w v l) (hl : 0 < l.length) : ∃ k, v.ownBlock = some k ∧ k < w.heap.size := by
  obtain ⟨a, cap, rfl, h1, h2, h3⟩ := h
  obtain ⟨b, off, rfl, hb, hr⟩ := h3 hl
  exact ⟨b, rfl, hb⟩

def pad64 (l : List UInt8) : List UInt8 := l ++ List.replicate (64 - l.length) 0
theorem pad64_len {l : List UInt8} (h : l.length ≤ 64) : (pad64 l).length = 64 := by simp [pad64]; omega

theorem write_nil (i : Int) (v : Value) (w : World) :
    Calls Try.prog 18 #[.pointer none, .int .i64 i, v] w fun e w' => e = .returned (.int .i64 6) ∧ w = w' := by
  go_enter Try.func18, Try.ntmps18
  go_wp2_with fail
  refine (look_nil _ _).mono ?_
  rintro e w1 ⟨rfl, rfl⟩
  go_wp2
  go_ret
  exact ⟨rfl, rfl⟩
theorem write_look (F : Nat → Prop) (b : Nat) (st : Dk) (i : Int) (v : Value) (w : World) (h : DiskAt w F b st) (hl : lookE st i ≠ 0) :
    Calls Try.prog 18 #[.pointer (some ⟨b, 0, none⟩), .int .i64 i, v] w fun e w' => e = .returned (.int .i64 (lookE st i)) ∧ w = w' := by
  have hb : (lookE st i == 0) = false := by simpa using hl
  obtain ⟨E, hE⟩ : ∃ E, lookE st i = E := ⟨_, rfl⟩
  rw [hE] at hb hl ⊢
  have HE := Lib.hid hE; clear hE
  go_enter Try.func18, Try.ntmps18
  go_wp2_with fail
  refine (look_any F b st i _ h).mono ?_
  rintro e w1 ⟨rfl, rfl⟩
  rw [HE.out]
  go_wp2
  go_ret
  exact ⟨rfl, rfl⟩
theorem write_long (F : Nat → Prop) (b : Nat) (st : Dk) (i : Int) (v : Value) (l : List UInt8) (w : World) (h : DiskAt w F b st) (hl : lookE st i = 0) (hv : Bytes w v l) (h64 : 64 < l.length) :
    Calls Try.prog 18 #[.pointer (some ⟨b, 0, none⟩), .int .i64 i, v] w fun e w' => e = .returned (.int .i64 2) ∧ w = w' := by
  obtain ⟨a, cap, rfl, h1, h2, h3⟩ := hv
  have HL := Lib.hid hl; clear hl
  have H3 := Lib.hid h3; clear h3
  go_enter Try.func18, Try.ntmps18
  go_wp2_with fail
  refine (look_any F b st i _ h).mono ?_
  rintro e w1 ⟨rfl, rfl⟩
  rw [HL.out]
  go_wp2
  go_ret
  exact ⟨rfl, rfl⟩

def zeros64 : List UInt8 := List.replicate 64 0
def zeroW : Array Value := (.int .i64 0 :: u8s zeros64).toArray
theorem zero_write (w : World) : (zeroValue 83).run Try.prog w = .ok (.agg zeroW) w := by kernel_rfl
theorem zeroW_ne : (zeroW = #[]) = False := by simp [zeroW]
theorem zeroW_set (i : Int) : zeroW.setIfInBounds 0 (.int .i64 i) = (wr1 (i, zeros64)).toArray := by simp [zeroW, wr1]

theorem sizeW : (Try.prog.info? 83).map (·.size) = some 65 := by kernel_rfl
theorem infoW : (Try.prog.info? 83).map (fun i => (i.zero, i.size, i.bytes)) = some (some (.agg zeroW), 65, 72) := by kernel_rfl
theorem u8s_one {l : List UInt8} : ∀ v ∈ u8s l, v.oneCell' = true := by
  intro v hv
  simp only [u8s, List.mem_map] at hv
  obtain ⟨b, _, rfl⟩ := hv
  rfl
theorem wr1_one {p : Int × List UInt8} : ∀ v ∈ wr1 p, v.oneCell' = true := by
  intro v hv
  simp only [wr1, List.mem_cons] at hv
  rcases hv with rfl | hv
  · rfl
  · exact u8s_one v hv
theorem store_zeroW (w : World) (i : Int) : (storeCells ⟨w.heap.size, 0, none⟩ (zeroW.toList.set 0 (.int .i64 i)) 0).run Try.prog (w.alloc (.cells zeroW 83)) = .ok () (w.alloc (.cells (wr1 (i, zeros64)).toArray 83)) := by
  have h := run_storeCells_new (P := Try.prog) w 83 zeroW (wr1 (i, zeros64)).toArray (by rw [sizeW]; rfl) (by rfl) (by rw [Array.all_eq_true_iff_forall_mem]; intro v hv; exact wr1_one v (by simpa using hv))
  rw [← zeroW_set] at h
  rw [← zeroW_set]
  simpa using h

theorem splice_write (i : Int) (l : List UInt8) (h : l.length ≤ 64) : splice (wr1 (i, zeros64)) 1 (u8s l) = wr1 (i, pad64 l) := by
  unfold splice wr1 pad64 zeros64
  rw [u8s_append, u8s_len]
  have e : (u8s (List.replicate 64 0)).drop l.length = u8s (List.replicate (64 - l.length) 0) := by
    rw [← u8s_drop, List.drop_replicate]
  simp only [List.take_succ_cons, List.take_zero, List.cons_append, List.nil_append]
  rw [show 1 + l.length = l.length + 1 from Nat.add_comm _ _, List.drop_succ_cons, e]
theorem sizeB : (Try.prog.info? 5).map (·.size) = some 1 := by kernel_rfl

theorem begun_wait (st : Dk) : (begun st).wait = st.wait := by unfold begun; split <;> rfl
theorem begun_sure (st : Dk) : (begun st).sure = st.sure := by unfold begun; split <;> rfl
theorem begun_ops (st : Dk) : (begun st).ops = st.ops + 1 := by unfold begun; split <;> rfl
def wrote (st : Dk) (i : Int) (l : List UInt8) : Dk := { begun st with wait := (begun st).wait ++ [(i, pad64 l)] }
set_option maxRecDepth 100000 in
set_option maxHeartbeats 8000000 in
theorem write_any (F : Nat → Prop) (b : Nat) (st : Dk) (i : Int) (v : Value) (l : List UInt8) (w : World) (h : DiskAt w F b st) (hl : lookE st i = 0) (hv : Bytes w v l) (h64 : l.length ≤ 64) (hvF : 0 < l.length → ∀ k, v.ownBlock = some k → ¬ F k)
    (hops : 0 ≤ st.ops ∧ st.ops ≤ 1000000000) (harm : 0 ≤ st.armed ∧ st.armed ≤ 9223372036854775807) (hw : st.wait.length ≤ 1000000000) :
    Calls Try.prog 18 #[.pointer (some ⟨b, 0, none⟩), .int .i64 i, v] w fun e w' => e = .returned (.int .i64 (if (begun st).off then 12 else 0)) ∧ DiskAt w' (fun k => F k ∨ w.heap.size ≤ k) b (wrote st i l) ∧ Only F w w' := by
  have hFb := h.2.2.1
  have HL := Lib.hid hl; clear hl
  have HV := Lib.hid hv
  obtain ⟨a, cap, rfl, h1, h2, h3⟩ := hv
  have H3 := Lib.hid h3; clear h3
  go_enter Try.func18, Try.ntmps18
  go_wp2_with fail
  refine (look_any F b st i _ h).mono ?_
  rintro e w1 ⟨rfl, rfl⟩
  rw [HL.out]
  go_wp2_with fail
  refine (begin_any F b st _ h hops harm).mono ?_
  rintro e w1 ⟨rfl, hD, hO⟩
  have hz := zero_write
  have hzn := zeroW_ne
  have hsz := store_zeroW w1 i
  have HV1 := Lib.hid (HV.out.only hO (fun hp k hk e => hvF hp k hk (e ▸ hFb)))
  have hlen63 : l.length ≤ 64 := h64
  go_upto_region 9 with (with_reducible refine wpList_copy_splice rfl (.tmp 24) (.tmp 25) 22 22 rfl 5 Try.underlying22 sizeB (some ⟨w1.heap.size, 1, none⟩) a 64 64 l.length cap rfl rfl w1.heap.size 1 (wr1 (i, zeros64)) 83 (heap_new _ _) (u8s l) (by rw [u8s_len]; exact (Nat.min_eq_left h64).symm) ?c2 ?c3 u8s_one w1.heap.size _ (Below.refl _ _) (Nat.le_refl _) ?c4)
  case c2 =>
    intro hp
    rw [u8s_len] at hp
    obtain ⟨av, cv, hav, _, _, h3⟩ := HV1.out
    cases hav
    obtain ⟨bv, ov, rfl, hbv, hr⟩ := h3 hp
    refine ⟨_, rfl, fun j v hv => ?_⟩
    rw [addr_add, cell_only ((Only.refl (fun _ => False) w1).alloc _) hbv (fun h => h)]
    exact hr j v hv
  case c3 => rw [u8s_len]; simp [wr1, u8s_len, zeros64]; omega
  case c4 =>
    intro w2 hg2 hb2
    have hg3 := hg2.out
    rw [splice_write i l h64] at hg3
    have hO2 : Only (fun k => w1.heap.size ≤ k) w1 w2 := ((Only.refl _ w1).alloc _).trans' (T := fun k => w1.heap.size ≤ k) ⟨hb2.os, hb2.tape, hb2.output, hb2.size, fun k _ hk => hb2.block k (by omega)⟩ (fun _ _ h => h)
    have hD2 := hD.only hO2 (fun k _ hk => by omega)
    have hs2 : w1.heap.size < w2.heap.size := (Array.getElem?_eq_some_iff.1 hg3).1
    have HD := Lib.hid hD2
    obtain ⟨gs, aw, cw, hbg, hFg, hb5, hgs5, hrow, hblk⟩ := hD2.2.2.2.2
    obtain ⟨c0, c1, c2, c3, c4, fz⟩ : w2.cell? ⟨b, 0, none⟩ = some (.slice (some ⟨gs, 0, none⟩) (begun st).sure.length (begun st).sure.length) ∧ w2.cell? ⟨b, 1, none⟩ = some (.slice aw (begun st).wait.length cw) ∧ w2.cell? ⟨b, 2, none⟩ = some (.int .i64 (begun st).ops) ∧ w2.cell? ⟨b, 3, none⟩ = some (.int .i64 (begun st).armed) ∧ w2.cell? ⟨b, 4, none⟩ = some (.bool (begun st).off) ∧ ∀ o, w2.frozen? ⟨b, o, none⟩ = false :=
      ⟨by simp [World.cell?, hb5], by simp [World.cell?, hb5], by simp [World.cell?, hb5], by simp [World.cell?, hb5], by simp [World.cell?, hb5], fun o => by simp [World.frozen?, hb5]⟩
    have hrg : w2.rangeAt w1.heap.size 0 (wr1 (i, pad64 l)) := range_of_block hg3
    have HRG := Lib.hid hrg; clear hrg
    clear hg2 hg3 hgs5 hb5
    go_upto_region 9 with (fail)
    obtain ⟨i0, hi, hz0, hz1, hz2⟩ := info_parts infoW
    have HI := Lib.hid (And.intro hi (And.intro hz0 (And.intro hz1 hz2))); clear hi hz0 hz1 hz2
    have HR := Lib.hid hrow; have HB := Lib.hid hblk; clear hrow hblk
    have hwl : (wr1 (i, pad64 l)).length = 65 := by simp [wr1, u8s_len, pad64_len h64]
    have HWL := Lib.hid hwl; clear hwl
    have hlen9 : (begun st).wait.length ≤ 1000000000 := by rw [begun_wait]; exact hw
    go_cut [8] from 9 (fun v8 w' => v8 = .bool (!(begun st).off) ∧ DiskAt w' (fun k => F k ∨ w.heap.size ≤ k) b (wrote st i l) ∧ Only F w w')
    case rest =>
      obtain ⟨rfl, hF4, hO4⟩ := hcut
      clear hz hzn hsz c0 c1 c2 c3 c4 fz
      cases hoff : (begun st).off
      · simp only [Bool.not_false]
        go_wp2
        all_goals (go_ret; exact ⟨rfl, hF4, hO4⟩)
      · simp only [Bool.not_true]
        go_wp2
        all_goals (go_ret; exact ⟨rfl, hF4, hO4⟩)
    case first =>
    refine wp_region_any (by kernel_rfl) ?_
    change wpAny _ _ _ _ _ _ _ (World.drew _)
    refine wpAny_take (i := 0) (v := ?vv0) rfl (by kernel_rfl) (by kernel_rfl) (by kernel_rfl) (fun _ _ _ h => h) (Or.inl ⟨by rfl, ?yy0⟩) ?rr0
    case yy0 => (intro w; go_simp; try (with_reducible rfl))
    refine wpAny_take (i := 1) (v := ?vv1) rfl (by kernel_rfl) (by kernel_rfl) (by kernel_rfl) (fun _ _ _ h => h) (Or.inl ⟨by rfl, ?yy1⟩) ?rr1
    case yy1 => (intro w; go_simp; try (with_reducible rfl))
    refine wpAny_take (i := 2) (v := ?vv2) rfl (by kernel_rfl) (by kernel_rfl) (by kernel_rfl) (fun _ _ _ h => h) (Or.inl ⟨by rfl, ?yy2⟩) ?rr2
    case yy2 => (intro w; go_simp; try (with_reducible rfl))
    refine wpAny_take (i := 3) (v := ?vv3) rfl (by kernel_rfl) (by kernel_rfl) (by kernel_rfl) (fun _ _ _ h => h) (Or.inl ⟨by rfl, ?yy3⟩) ?rr3
    case yy3 => (intro w; go_simp; try (with_reducible rfl))
    have HX : (w2.drew).rangeAt w1.heap.size 0 (wr1 (i, pad64 l)) := (World.rangeAt_drew _ _ _ _).2 HRG.out
    have hb9 : b < w2.heap.size := World.block_lt_of_cell? w2 _ c1
    have OA : Only (fun _ => False) w2 (w2.drew.alloc (.cells (wr1 (i, pad64 l)).toArray 83)) := (Only.refl (fun _ => False) w2).drew.alloc _
    have hbA : b < (w2.drew.alloc (.cells (wr1 (i, pad64 l)).toArray 83)).heap.size := Nat.lt_of_lt_of_le hb9 OA.size
    have HY : Row (w2.drew.alloc (.cells (wr1 (i, pad64 l)).toArray 83)) 0 83 65 (.slice aw (begun st).wait.length cw) (begun st).wait.length ((begun st).wait.map wr1).flatten := by
      have := HR.out.2
      rw [List.length_map] at this
      exact this.only OA (fun _ _ _ h => h)
    have HNB : ∀ k, (Value.slice aw (begun st).wait.length cw).ownBlock = some k → k ≠ b := fun k hk => (HB.out k hk).1
    refine wpAny_ready (rs := [4, 5]) (by kernel_rfl) (by simp) ?_
    refine AllReady.cons rfl (fun K hK => ?_) (AllReady.cons rfl (fun K hK => ?_) AllReady.nil)
    · go_simp; refine hK _ _ ?_; clear hK K
      refine wpAny_ready (rs := [5]) (by kernel_rfl) (by simp) ?_; refine AllReady.cons rfl (fun K hK => ?_)  AllReady.nil
      (refine step_load_agg rfl 83 (.tmp 9) rfl w1.heap.size 0 (by rfl) (wr1 (i, pad64 l)) _ HX Try.underlying83 rfl (by rw [sizeW, HWL.out]) ?_); refine hK _ _ ?_; clear hK K
      refine wpAny_ready (rs := [6]) (by kernel_rfl) (by simp) ?_; refine AllReady.cons rfl (fun K hK => ?_)  AllReady.nil
      (refine step_build_box rfl 78 83 (.tmp 32) rfl (wr1 (i, pad64 l)) (by rfl) i0 _ 65 Try.underlying78 HI.out.1 HI.out.2.1 HI.out.2.2.1 (by decide) (by decide) HWL.out ?_); refine hK _ _ ?_; clear hK K
      refine wpAny_ready (rs := [7]) (by kernel_rfl) (by simp) ?_; refine AllReady.cons rfl (fun K hK => ?_)  AllReady.nil
      (refine step_append_row rfl (.tmp 31) (.tmp 33) 78 rfl 0 83 i0 _ 65 72 Try.underlying78 HI.out.1 HI.out.2.1 HI.out.2.2.1 HI.out.2.2.2 (by rfl) (by decide) _ _ _ (by rfl) HY ⟨w2.drew.heap.size, 0, none⟩ 1 1 (wr1 (i, pad64 l)) (by rfl) HWL.out (fun j u hu => by rw [addr_add]; exact range_of_block (heap_new w2.drew _) j u hu) wr1_one (by omega) (by simp only [maxLen]; omega) (by omega) (Nat.zero_le _) ?_); intro a3 c3' w3 HR3 HO3 HB3; refine hK _ _ ?_; clear hK K
      have d0 : w3.cell? ⟨b, 1, none⟩ = some (.slice aw (begun st).wait.length cw) := by
        rw [cell_only HO3 (a := ⟨b, 1, none⟩) hbA (fun h => HNB _ h rfl), cell_only OA (a := ⟨b, 1, none⟩) hb9 (fun h => h)]; exact c1
      have d1 : w3.frozen? ⟨b, 1, none⟩ = false := by
        rw [frozen_only HO3 (a := ⟨b, 1, none⟩) hbA (fun h => HNB _ h rfl), frozen_only OA (a := ⟨b, 1, none⟩) hb9 (fun h => h)]; exact fz 1
      refine wpAny_take (i := 8) (v := ?vv81) rfl (by kernel_rfl) (by kernel_rfl) (by kernel_rfl) (fun _ _ _ h => h) (Or.inl ⟨by rfl, ?yy81⟩) ?rr81
      case yy81 => (intro w; go_simp; try (with_reducible rfl))
      refine wpAny_take (i := 9) (v := ?vv91) rfl (by kernel_rfl) (by kernel_rfl) (by kernel_rfl) (fun _ _ _ h => h) (Or.inl ⟨by rfl, ?yy91⟩) ?rr91
      case yy91 => (intro w; go_simp; try (with_reducible rfl))
      refine wpAny_ready (rs := [10]) (by kernel_rfl) (by simp) ?_; refine AllReady.cons rfl (fun K hK => ?_)  AllReady.nil
      go_simp
      refine hK _ _ ?_; clear hK K
      refine wpAny_done (by kernel_rfl) ?_ _
      have hW : (begun st).wait.length + 1 = ((begun st).wait ++ [(i, pad64 l)]).length := by simp
      have hF4 : DiskAt (w3.setCell ⟨b, 1, none⟩ (.slice a3 ((begun st).wait.length + 1) c3')) (fun k => F k ∨ w.heap.size ≤ k) b (wrote st i l) := by
        have hr3 : RowS w3 0 83 65 (.slice a3 ((begun st).wait ++ [(i, pad64 l)]).length c3') (((begun st).wait ++ [(i, pad64 l)]).map wr1) := by
          refine ⟨?_, ?_⟩
          · intro x hx
            rw [List.map_append, List.mem_append] at hx
            rcases hx with hx | hx
            · exact HR.out.1 x hx
            · simp at hx; subst hx; exact HWL.out
          · rw [List.length_map, ← hW]; simpa using HR3
        rw [hW]
        refine HD.out.setWait c1 ((OA.mono (fun _ _ h => h.elim)).trans' HO3 (fun _ _ h => h)) a3 c3' _ ?_ hr3 (fun k hk => (HB3 k (by rw [hW]; exact hk)).imp id (fun h => Nat.le_trans OA.size h)) (fun k hk => hk.imp id (fun h => Nat.le_trans (Nat.le_trans hO.size hO2.size) h))
        intro p hp
        rw [List.mem_append] at hp
        rcases hp with hp | hp
        · exact HD.out.2.1 p hp
        · simp at hp; subst hp; exact pad64_len h64
      have hO4 : Only F w (w3.setCell ⟨b, 1, none⟩ (.slice a3 ((begun st).wait.length + 1) c3')) := by
        have q1 : Only F w w2 := (hO.mono (T := F) (fun k _ hk => by subst hk; exact hFb)).trans' hO2 (fun k h1 h2 => absurd h2 (by have := hO.size; omega))
        have q2 : Only F w2 w3 := (OA.mono (T := F) (fun _ _ h => h.elim)).trans' HO3 (fun k _ h => (HB.out k h).2.2)
        exact (q1.trans' q2 (fun _ _ h => h)).setCell (p := ⟨b, 1, none⟩) (.inl hFb) _
      generalize w3.setCell ⟨b, 1, none⟩ (.slice a3 ((begun st).wait.length + 1) c3') = w4 at hF4 hO4 ⊢
      clear HR3 HO3 HB3 d0 d1 OA HY
      go_wp2_with fail
      go_meet
      exact ⟨rfl, hF4, hO4⟩
    · (refine step_load_agg rfl 83 (.tmp 9) rfl w1.heap.size 0 (by rfl) (wr1 (i, pad64 l)) _ HX Try.underlying83 rfl (by rw [sizeW, HWL.out]) ?_); refine hK _ _ ?_; clear hK K
      refine wpAny_ready (rs := [4, 6]) (by kernel_rfl) (by simp) ?_
      refine AllReady.cons rfl (fun K hK => ?_) (AllReady.cons rfl (fun K hK => ?_) AllReady.nil)
      · go_simp; refine hK _ _ ?_; clear hK K
        refine wpAny_ready (rs := [6]) (by kernel_rfl) (by simp) ?_; refine AllReady.cons rfl (fun K hK => ?_)  AllReady.nil
        (refine step_build_box rfl 78 83 (.tmp 32) rfl (wr1 (i, pad64 l)) (by rfl) i0 _ 65 Try.underlying78 HI.out.1 HI.out.2.1 HI.out.2.2.1 (by decide) (by decide) HWL.out ?_); refine hK _ _ ?_; clear hK K
        refine wpAny_ready (rs := [7]) (by kernel_rfl) (by simp) ?_; refine AllReady.cons rfl (fun K hK => ?_)  AllReady.nil
        (refine step_append_row rfl (.tmp 31) (.tmp 33) 78 rfl 0 83 i0 _ 65 72 Try.underlying78 HI.out.1 HI.out.2.1 HI.out.2.2.1 HI.out.2.2.2 (by rfl) (by decide) _ _ _ (by rfl) HY ⟨w2.drew.heap.size, 0, none⟩ 1 1 (wr1 (i, pad64 l)) (by rfl) HWL.out (fun j u hu => by rw [addr_add]; exact range_of_block (heap_new w2.drew _) j u hu) wr1_one (by omega) (by simp only [maxLen]; omega) (by omega) (Nat.zero_le _) ?_); intro a3 c3' w3 HR3 HO3 HB3; refine hK _ _ ?_; clear hK K
        have d0 : w3.cell? ⟨b, 1, none⟩ = some (.slice aw (begun st).wait.length cw) := by
          rw [cell_only HO3 (a := ⟨b, 1, none⟩) hbA (fun h => HNB _ h rfl), cell_only OA (a := ⟨b, 1, none⟩) hb9 (fun h => h)]; exact c1
        have d1 : w3.frozen? ⟨b, 1, none⟩ = false := by
          rw [frozen_only HO3 (a := ⟨b, 1, none⟩) hbA (fun h => HNB _ h rfl), frozen_only OA (a := ⟨b, 1, none⟩) hb9 (fun h => h)]; exact fz 1
        refine wpAny_take (i := 8) (v := ?vv82) rfl (by kernel_rfl) (by kernel_rfl) (by kernel_rfl) (fun _ _ _ h => h) (Or.inl ⟨by rfl, ?yy82⟩) ?rr82
        case yy82 => (intro w; go_simp; try (with_reducible rfl))
        refine wpAny_take (i := 9) (v := ?vv92) rfl (by kernel_rfl) (by kernel_rfl) (by kernel_rfl) (fun _ _ _ h => h) (Or.inl ⟨by rfl, ?yy92⟩) ?rr92
        case yy92 => (intro w; go_simp; try (with_reducible rfl))
        refine wpAny_ready (rs := [10]) (by kernel_rfl) (by simp) ?_; refine AllReady.cons rfl (fun K hK => ?_)  AllReady.nil
        go_simp
        refine hK _ _ ?_; clear hK K
        refine wpAny_done (by kernel_rfl) ?_ _
        have hW : (begun st).wait.length + 1 = ((begun st).wait ++ [(i, pad64 l)]).length := by simp
        have hF4 : DiskAt (w3.setCell ⟨b, 1, none⟩ (.slice a3 ((begun st).wait.length + 1) c3')) (fun k => F k ∨ w.heap.size ≤ k) b (wrote st i l) := by
          have hr3 : RowS w3 0 83 65 (.slice a3 ((begun st).wait ++ [(i, pad64 l)]).length c3') (((begun st).wait ++ [(i, pad64 l)]).map wr1) := by
            refine ⟨?_, ?_⟩
            · intro x hx
              rw [List.map_append, List.mem_append] at hx
              rcases hx with hx | hx
              · exact HR.out.1 x hx
              · simp at hx; subst hx; exact HWL.out
            · rw [List.length_map, ← hW]; simpa using HR3
          rw [hW]
          refine HD.out.setWait c1 ((OA.mono (fun _ _ h => h.elim)).trans' HO3 (fun _ _ h => h)) a3 c3' _ ?_ hr3 (fun k hk => (HB3 k (by rw [hW]; exact hk)).imp id (fun h => Nat.le_trans OA.size h)) (fun k hk => hk.imp id (fun h => Nat.le_trans (Nat.le_trans hO.size hO2.size) h))
          intro p hp
          rw [List.mem_append] at hp
          rcases hp with hp | hp
          · exact HD.out.2.1 p hp
          · simp at hp; subst hp; exact pad64_len h64
        have hO4 : Only F w (w3.setCell ⟨b, 1, none⟩ (.slice a3 ((begun st).wait.length + 1) c3')) := by
          have q1 : Only F w w2 := (hO.mono (T := F) (fun k _ hk => by subst hk; exact hFb)).trans' hO2 (fun k h1 h2 => absurd h2 (by have := hO.size; omega))
          have q2 : Only F w2 w3 := (OA.mono (T := F) (fun _ _ h => h.elim)).trans' HO3 (fun k _ h => (HB.out k h).2.2)
          exact (q1.trans' q2 (fun _ _ h => h)).setCell (p := ⟨b, 1, none⟩) (.inl hFb) _
        generalize w3.setCell ⟨b, 1, none⟩ (.slice a3 ((begun st).wait.length + 1) c3') = w4 at hF4 hO4 ⊢
        clear HR3 HO3 HB3 d0 d1 OA HY
        go_wp2_with fail
        go_meet
        exact ⟨rfl, hF4, hO4⟩
      · (refine step_build_box rfl 78 83 (.tmp 32) rfl (wr1 (i, pad64 l)) (by rfl) i0 _ 65 Try.underlying78 HI.out.1 HI.out.2.1 HI.out.2.2.1 (by decide) (by decide) HWL.out ?_); refine hK _ _ ?_; clear hK K
        refine wpAny_ready (rs := [4]) (by kernel_rfl) (by simp) ?_; refine AllReady.cons rfl (fun K hK => ?_)  AllReady.nil
        go_simp; refine hK _ _ ?_; clear hK K
        change wpAny _ _ _ _ _ _ _ (w2.drew.alloc _)
        refine wpAny_ready (rs := [7]) (by kernel_rfl) (by simp) ?_; refine AllReady.cons rfl (fun K hK => ?_)  AllReady.nil
        (refine step_append_row rfl (.tmp 31) (.tmp 33) 78 rfl 0 83 i0 _ 65 72 Try.underlying78 HI.out.1 HI.out.2.1 HI.out.2.2.1 HI.out.2.2.2 (by rfl) (by decide) _ _ _ (by rfl) HY ⟨w2.drew.heap.size, 0, none⟩ 1 1 (wr1 (i, pad64 l)) (by rfl) HWL.out (fun j u hu => by rw [addr_add]; exact range_of_block (heap_new w2.drew _) j u hu) wr1_one (by omega) (by simp only [maxLen]; omega) (by omega) (Nat.zero_le _) ?_); intro a3 c3' w3 HR3 HO3 HB3; refine hK _ _ ?_; clear hK K
        have d0 : w3.cell? ⟨b, 1, none⟩ = some (.slice aw (begun st).wait.length cw) := by
          rw [cell_only HO3 (a := ⟨b, 1, none⟩) hbA (fun h => HNB _ h rfl), cell_only OA (a := ⟨b, 1, none⟩) hb9 (fun h => h)]; exact c1
        have d1 : w3.frozen? ⟨b, 1, none⟩ = false := by
          rw [frozen_only HO3 (a := ⟨b, 1, none⟩) hbA (fun h => HNB _ h rfl), frozen_only OA (a := ⟨b, 1, none⟩) hb9 (fun h => h)]; exact fz 1
        refine wpAny_take (i := 8) (v := ?vv83) rfl (by kernel_rfl) (by kernel_rfl) (by kernel_rfl) (fun _ _ _ h => h) (Or.inl ⟨by rfl, ?yy83⟩) ?rr83
        case yy83 => (intro w; go_simp; try (with_reducible rfl))
        refine wpAny_take (i := 9) (v := ?vv93) rfl (by kernel_rfl) (by kernel_rfl) (by kernel_rfl) (fun _ _ _ h => h) (Or.inl ⟨by rfl, ?yy93⟩) ?rr93
        case yy93 => (intro w; go_simp; try (with_reducible rfl))
        refine wpAny_ready (rs := [10]) (by kernel_rfl) (by simp) ?_; refine AllReady.cons rfl (fun K hK => ?_)  AllReady.nil
        go_simp
        refine hK _ _ ?_; clear hK K
        refine wpAny_done (by kernel_rfl) ?_ _
        have hW : (begun st).wait.length + 1 = ((begun st).wait ++ [(i, pad64 l)]).length := by simp
        have hF4 : DiskAt (w3.setCell ⟨b, 1, none⟩ (.slice a3 ((begun st).wait.length + 1) c3')) (fun k => F k ∨ w.heap.size ≤ k) b (wrote st i l) := by
          have hr3 : RowS w3 0 83 65 (.slice a3 ((begun st).wait ++ [(i, pad64 l)]).length c3') (((begun st).wait ++ [(i, pad64 l)]).map wr1) := by
            refine ⟨?_, ?_⟩
            · intro x hx
              rw [List.map_append, List.mem_append] at hx
              rcases hx with hx | hx
              · exact HR.out.1 x hx
              · simp at hx; subst hx; exact HWL.out
            · rw [List.length_map, ← hW]; simpa using HR3
          rw [hW]
          refine HD.out.setWait c1 ((OA.mono (fun _ _ h => h.elim)).trans' HO3 (fun _ _ h => h)) a3 c3' _ ?_ hr3 (fun k hk => (HB3 k (by rw [hW]; exact hk)).imp id (fun h => Nat.le_trans OA.size h)) (fun k hk => hk.imp id (fun h => Nat.le_trans (Nat.le_trans hO.size hO2.size) h))
          intro p hp
          rw [List.mem_append] at hp
          rcases hp with hp | hp
          · exact HD.out.2.1 p hp
          · simp at hp; subst hp; exact pad64_len h64
        have hO4 : Only F w (w3.setCell ⟨b, 1, none⟩ (.slice a3 ((begun st).wait.length + 1) c3')) := by
          have q1 : Only F w w2 := (hO.mono (T := F) (fun k _ hk => by subst hk; exact hFb)).trans' hO2 (fun k h1 h2 => absurd h2 (by have := hO.size; omega))
          have q2 : Only F w2 w3 := (OA.mono (T := F) (fun _ _ h => h.elim)).trans' HO3 (fun k _ h => (HB.out k h).2.2)
          exact (q1.trans' q2 (fun _ _ h => h)).setCell (p := ⟨b, 1, none⟩) (.inl hFb) _
        generalize w3.setCell ⟨b, 1, none⟩ (.slice a3 ((begun st).wait.length + 1) c3') = w4 at hF4 hO4 ⊢
        clear HR3 HO3 HB3 d0 d1 OA HY
        go_wp2_with fail
        go_meet
        exact ⟨rfl, hF4, hO4⟩
end Go.Proofs.Ytlkglhgndfhjeaa
