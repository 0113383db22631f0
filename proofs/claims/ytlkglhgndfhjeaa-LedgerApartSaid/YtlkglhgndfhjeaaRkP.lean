/- Block's disk and the reference's, side by side. -/
import Derived.Test.YtlkglhgndfhjeaaRkH
import Derived.Test.YtlkglhgndfhjeaaBlkE
namespace Go.Proofs.Ytlkglhgndfhjeaa
open Go Go.RowKit
set_option linter.unusedVariables false
set_option linter.unusedSimpArgs false
set_option maxRecDepth 100000

/-- The law began at W; block's disk is s, the reference's is t; neither has a block of Y's. -/
def Pair (W : World) (Y : Nat → Prop) (w : World) (d m : Nat) (s t : Dk) : Prop :=
  ∃ F G : Nat → Prop, DiskAt w F d s ∧ RkAt w G m t ∧ (∀ k, F k → W.heap.size ≤ k ∧ k < w.heap.size ∧ ¬ G k ∧ ¬ Y k) ∧ (∀ k, G k → W.heap.size ≤ k ∧ k < w.heap.size ∧ ¬ Y k) ∧ Only (fun _ => False) W w
theorem Pair.old {W w : World} {Y : Nat → Prop} {d m : Nat} {s t : Dk} (h : Pair W Y w d m s t) : Only (fun _ => False) W w := h.choose_spec.choose_spec.2.2.2.2
theorem Pair.disk {W w : World} {Y : Nat → Prop} {d m : Nat} {s t : Dk} (h : Pair W Y w d m s t) : DiskAt w h.choose d s := h.choose_spec.choose_spec.1
theorem Pair.ref {W w : World} {Y : Nat → Prop} {d m : Nat} {s t : Dk} (h : Pair W Y w d m s t) : RkAt w h.choose_spec.choose m t := h.choose_spec.choose_spec.2.1
theorem Pair.only {W w w' : World} {Y : Nat → Prop} {d m : Nat} {s t : Dk} {S : Nat → Prop} (h : Pair W Y w d m s t) (ho : Only S w w') (hS : ∀ k, k < w.heap.size → S k → W.heap.size ≤ k ∧ Y k) : Pair W Y w' d m s t := by
  obtain ⟨F, G, h1, h2, h3, h4, h5⟩ := h
  exact ⟨F, G, h1.only ho (fun k hk hl hs => (h3 k hk).2.2.2 (hS k hl hs).2), h2.only ho (fun k hk hl hs => (h4 k hk).2.2 (hS k hl hs).2), fun k hk => ⟨(h3 k hk).1, Nat.lt_of_lt_of_le (h3 k hk).2.1 ho.size, (h3 k hk).2.2⟩, fun k hk => ⟨(h4 k hk).1, Nat.lt_of_lt_of_le (h4 k hk).2.1 ho.size, (h4 k hk).2.2⟩,
    h5.trans' ho (fun k hk hs => by have := (hS k (Nat.lt_of_lt_of_le hk h5.size) hs).1; omega)⟩
theorem Pair.mono {W w : World} {Y Z : Nat → Prop} {d m : Nat} {s t : Dk} (h : Pair W Y w d m s t) (hY : ∀ k, Z k → Y k ∨ w.heap.size ≤ k) : Pair W Z w d m s t := by
  obtain ⟨F, G, h1, h2, h3, h4, h5⟩ := h
  exact ⟨F, G, h1, h2, fun k hk => ⟨(h3 k hk).1, (h3 k hk).2.1, (h3 k hk).2.2.1, fun hz => (hY k hz).elim (h3 k hk).2.2.2 (fun h => by have := (h3 k hk).2.1; omega)⟩, fun k hk => ⟨(h4 k hk).1, (h4 k hk).2.1, fun hz => (hY k hz).elim (h4 k hk).2.2 (fun h => by have := (h4 k hk).2.1; omega)⟩, h5⟩
theorem pair_d {W w w' : World} {Y F G F' : Nat → Prop} {d m : Nat} {s' t : Dk} (hm : RkAt w G m t) (hF : ∀ k, F k → W.heap.size ≤ k ∧ k < w.heap.size ∧ ¬ G k ∧ ¬ Y k) (hG : ∀ k, G k → W.heap.size ≤ k ∧ k < w.heap.size ∧ ¬ Y k) (hW : Only (fun _ => False) W w)
    (hd : DiskAt w' F' d s') (ho : Only F w w') (hF' : ∀ k, F' k → F k ∨ w.heap.size ≤ k) (hY : ∀ k, Y k → k < w.heap.size) : Pair W Y w' d m s' t ∧ Only (fun k => W.heap.size ≤ k ∧ ¬ Y k) w w' := by
  refine ⟨⟨_, G, hd.strict, hm.only ho (fun k hk hl hs => (hF k hs).2.2.1 hk), fun k hk => ?_, fun k hk => ⟨(hG k hk).1, Nat.lt_of_lt_of_le (hG k hk).2.1 ho.size, (hG k hk).2.2⟩, hW.trans' ho (fun k hk hs => by have := (hF k hs).1; omega)⟩, ho.mono (fun k _ hk => ⟨(hF k hk).1, (hF k hk).2.2.2⟩)⟩
  rcases hF' k hk.1 with h | h
  · exact ⟨(hF k h).1, hk.2, (hF k h).2.2⟩
  · exact ⟨Nat.le_trans hW.size h, hk.2, fun hg => by have := (hG k hg).2.1; omega, fun hy => by have := hY k hy; omega⟩
theorem pair_m {W w w' : World} {Y F G G' : Nat → Prop} {d m : Nat} {s t' : Dk} (hd : DiskAt w F d s) (hF : ∀ k, F k → W.heap.size ≤ k ∧ k < w.heap.size ∧ ¬ G k ∧ ¬ Y k) (hG : ∀ k, G k → W.heap.size ≤ k ∧ k < w.heap.size ∧ ¬ Y k) (hW : Only (fun _ => False) W w)
    (hm : RkAt w' G' m t') (ho : Only G w w') (hG' : ∀ k, G' k → G k ∨ w.heap.size ≤ k) (hY : ∀ k, Y k → k < w.heap.size) : Pair W Y w' d m s t' ∧ Only (fun k => W.heap.size ≤ k ∧ ¬ Y k) w w' := by
  refine ⟨⟨F, _, hd.only ho (fun k hk hl hs => (hF k hk).2.2.1 hs), hm.strict, fun k hk => ⟨(hF k hk).1, Nat.lt_of_lt_of_le (hF k hk).2.1 ho.size, fun hg => ?_, (hF k hk).2.2.2⟩, fun k hk => ?_, hW.trans' ho (fun k hk hs => by have := (hG k hs).1; omega)⟩, ho.mono (fun k _ hk => ⟨(hG k hk).1, (hG k hk).2.2⟩)⟩
  · rcases hG' k hg.1 with h | h
    · exact (hF k hk).2.2.1 h
    · have := (hF k hk).2.1; omega
  · rcases hG' k hk.1 with h | h
    · exact ⟨(hG k h).1, hk.2, (hG k h).2.2⟩
    · exact ⟨Nat.le_trans hW.size h, hk.2, fun hy => by have := hY k hy; omega⟩
/-- What a Write, a Sync does, and answers. -/
def dwr (st : Dk) (i : Int) (l : List UInt8) : Dk × Int := if lookE st i ≠ 0 then (st, lookE st i) else if 64 < l.length then (st, 2) else (wrote st i l, if (begun st).off then 12 else 0)
def dsy (st : Dk) : Dk × Int := if st.off then (st, 12) else (synced st, if (begun st).off then 12 else 0)
theorem dwr_bad {st : Dk} {i : Int} {l : List UInt8} (h : lookE st i ≠ 0) : dwr st i l = (st, lookE st i) := if_pos h
theorem dwr_long {st : Dk} {i : Int} {l : List UInt8} (h : lookE st i = 0) (h2 : 64 < l.length) : dwr st i l = (st, 2) := by unfold dwr; rw [if_neg (fun e => e h), if_pos h2]
theorem dwr_good {st : Dk} {i : Int} {l : List UInt8} (h : lookE st i = 0) (h2 : l.length ≤ 64) : dwr st i l = (wrote st i l, if (begun st).off then 12 else 0) := by unfold dwr; rw [if_neg (fun e => e h), if_neg (by omega)]
theorem look_in {st : Dk} {i : Int} (h : lookE st i = 0) : 0 ≤ i ∧ i < st.sure.length ∧ st.off = false := by
  unfold lookE at h
  by_cases q : i < 0 ∨ (st.sure.length : Int) ≤ i
  · rw [if_pos q] at h; cases h
  · rw [if_neg q] at h
    refine ⟨by omega, by omega, ?_⟩
    cases ho : st.off
    · rfl
    · rw [ho] at h; simp at h
theorem dwr_fine {st : Dk} {m : Nat} (h : Fine st m) (hm : m + 1 ≤ 1000000000) (i : Int) (l : List UInt8) : Fine (dwr st i l).1 (m + 1) ∧ (dwr st i l).1.sure.length = st.sure.length := by
  unfold dwr
  by_cases h1 : lookE st i ≠ 0
  · rw [if_pos h1]; exact ⟨h.mono (by omega) hm, rfl⟩
  · rw [if_neg h1]
    by_cases h2 : 64 < l.length
    · rw [if_pos h2]; exact ⟨h.mono (by omega) hm, rfl⟩
    · rw [if_neg h2]
      have hl := look_in (Classical.not_not.1 h1)
      exact ⟨h.wrote hm ⟨hl.1, hl.2.1⟩ l, by show (begun st).sure.length = _; rw [begun_sure]⟩
theorem synced_sure (st : Dk) : (synced st).sure.length = st.sure.length := by
  unfold synced
  split
  · rw [begun_sure]
  · show (settled _ _).length = _
    rw [settled_len, begun_sure]
theorem dsy_fine {st : Dk} {m : Nat} (h : Fine st m) (hm : m + 1 ≤ 1000000000) : Fine (dsy st).1 (m + 1) ∧ (dsy st).1.sure.length = st.sure.length := by
  unfold dsy
  by_cases h1 : st.off
  · rw [if_pos h1]; exact ⟨h.mono (by omega) hm, rfl⟩
  · rw [if_neg h1]; exact ⟨h.synced hm, synced_sure st⟩

theorem pair_dwr (W : World) (Y : Nat → Prop) (d m : Nat) (s t : Dk) (n : Nat) (i : Int) (v : Value) (l : List UInt8) (w : World) (h : Pair W Y w d m s t) (hf : Fine s n) (hv : Bytes w v l) (hvW : 0 < l.length → ∀ k, v.ownBlock = some k → k < W.heap.size) (hY : ∀ k, Y k → k < w.heap.size) :
    Calls Try.prog 18 #[.pointer (some ⟨d, 0, none⟩), .int .i64 i, v] w fun e w' => e = .returned (.int .i64 (dwr s i l).2) ∧ Pair W Y w' d m (dwr s i l).1 t ∧ Only (fun k => W.heap.size ≤ k ∧ ¬ Y k) w w' := by
  have hp := h
  obtain ⟨F, G, h1, h2, h3, h4, h5⟩ := h
  have hm := hf.small
  by_cases hl : lookE s i ≠ 0
  · rw [dwr_bad hl]
    exact (write_look F d s i v w h1 hl).mono fun e w' ⟨he, hw⟩ => ⟨he, hw ▸ hp, hw ▸ Only.refl _ _⟩
  · have hl0 := Classical.not_not.1 hl
    by_cases h64 : 64 < l.length
    · rw [dwr_long hl0 h64]
      exact (write_long F d s i v l w h1 hl0 hv h64).mono fun e w' ⟨he, hw⟩ => ⟨he, hw ▸ hp, hw ▸ Only.refl _ _⟩
    · rw [dwr_good hl0 (by omega)]
      refine (write_any F d s i v l w h1 hl0 hv (by omega) (fun hp k hk hF => by have := h3 k hF; have := hvW hp k hk; omega) ⟨hf.ops.1, by have := hf.ops.2; omega⟩ hf.armed (by have := hf.wait; omega)).mono ?_
      rintro e w' ⟨he, hd, ho⟩
      exact ⟨he, pair_d h2 h3 h4 h5 hd ho (fun k hk => hk) hY⟩
theorem pair_mwr (W : World) (Y : Nat → Prop) (d m : Nat) (s t : Dk) (n : Nat) (i : Int) (v : Value) (l : List UInt8) (w : World) (h : Pair W Y w d m s t) (hf : Fine t n) (hv : Bytes w v l) (hvW : 0 < l.length → ∀ k, v.ownBlock = some k → k < W.heap.size) (hY : ∀ k, Y k → k < w.heap.size) :
    Calls Try.prog 27 #[.pointer (some ⟨m, 0, none⟩), .int .i64 i, v] w fun e w' => e = .returned (.int .i64 (dwr t i l).2) ∧ Pair W Y w' d m s (dwr t i l).1 ∧ Only (fun k => W.heap.size ≤ k ∧ ¬ Y k) w w' := by
  have hp := h
  obtain ⟨F, G, h1, h2, h3, h4, h5⟩ := h
  by_cases hl : lookE t i ≠ 0
  · rw [dwr_bad hl]
    exact (rkWrite_bad G m t i v w h2 hl).mono fun e w' ⟨he, hw⟩ => ⟨he, hw ▸ hp, hw ▸ Only.refl _ _⟩
  · have hl0 := Classical.not_not.1 hl
    by_cases h64 : 64 < l.length
    · rw [dwr_long hl0 h64]
      exact (rkWrite_long G m t n i v l w h2 hl0 hf hv h64).mono fun e w' ⟨he, hw⟩ => ⟨he, hw ▸ hp, hw ▸ Only.refl _ _⟩
    · rw [dwr_good hl0 (by omega)]
      obtain ⟨q0, q1, q2⟩ := look_in hl0
      obtain ⟨j, rfl⟩ := Int.eq_ofNat_of_zero_le q0
      refine (rkWrite G m t n j v l w h2 (by omega) q2 hf hv (by omega) (fun hp k hk hF => by have := h4 k hF; have := hvW hp k hk; omega)).mono ?_
      rintro e w' ⟨he, hd, ho⟩
      exact ⟨he, pair_m h1 h3 h4 h5 hd ho (fun k hk => hk) hY⟩
theorem look_zero (s : Dk) (h : 0 < s.sure.length) : lookE s 0 = if s.off then 12 else 0 := by
  unfold lookE
  rw [if_neg (by omega)]
theorem pair_dsy (W : World) (Y : Nat → Prop) (d m : Nat) (s t : Dk) (n : Nat) (w : World) (h : Pair W Y w d m s t) (hf : Fine s n) (hs : 0 < s.sure.length) (hY : ∀ k, Y k → k < w.heap.size) :
    Calls Try.prog 19 #[.pointer (some ⟨d, 0, none⟩)] w fun e w' => e = .returned (.int .i64 (dsy s).2) ∧ Pair W Y w' d m (dsy s).1 t ∧ Only (fun k => W.heap.size ≤ k ∧ ¬ Y k) w w' := by
  have hp := h
  obtain ⟨F, G, h1, h2, h3, h4, h5⟩ := h
  have hl := look_zero s hs
  cases ho : s.off
  · rw [ho] at hl
    have e1 : dsy s = (synced s, if (begun s).off then 12 else 0) := by unfold dsy; rw [ho]; rfl
    rw [e1]
    exact (sync_any F d s n w h1 hl hf).mono fun e w' ⟨he, hd, ho⟩ => ⟨he, pair_d h2 h3 h4 h5 hd ho (fun k hk => .inl hk) hY⟩
  · rw [ho] at hl
    have hl : lookE s 0 = 12 := hl
    have e1 : dsy s = (s, 12) := by unfold dsy; rw [ho]; rfl
    rw [e1]
    exact (sync_look F d s w h1 (by rw [hl]; decide)).mono fun e w' ⟨he, hw⟩ => ⟨by rw [he, hl], hw ▸ hp, hw ▸ Only.refl _ _⟩
theorem pair_msy (W : World) (Y : Nat → Prop) (d m : Nat) (s t : Dk) (n : Nat) (w : World) (h : Pair W Y w d m s t) (hf : Fine t n) (hY : ∀ k, Y k → k < w.heap.size) :
    Calls Try.prog 28 #[.pointer (some ⟨m, 0, none⟩)] w fun e w' => e = .returned (.int .i64 (dsy t).2) ∧ Pair W Y w' d m s (dsy t).1 ∧ Only (fun k => W.heap.size ≤ k ∧ ¬ Y k) w w' := by
  obtain ⟨F, G, h1, h2, h3, h4, h5⟩ := h
  refine (rkSync G m t n w h2 hf).mono fun e w' ⟨he, hd, ho⟩ => ?_
  have hp := pair_m h1 h3 h4 h5 hd ho (fun k hk => .inl hk) hY
  unfold dsy
  cases hq : t.off
  · rw [hq] at he hp; exact ⟨he, hp⟩
  · rw [hq] at he hp; exact ⟨he, hp⟩
theorem pair_drs (W : World) (Y : Nat → Prop) (d m : Nat) (s t : Dk) (n : Nat) (keep torn : Int) (w : World) (h : Pair W Y w d m s t) (hf : Fine s n) (hY : ∀ k, Y k → k < w.heap.size) :
    Calls Try.prog 20 #[.pointer (some ⟨d, 0, none⟩), .int .i64 keep, .int .i64 torn] w fun e w' => e = .returned (.int .i64 0) ∧ Pair W Y w' d m (restarted s keep torn) t ∧ Only (fun k => W.heap.size ≤ k ∧ ¬ Y k) w w' := by
  obtain ⟨F, G, h1, h2, h3, h4, h5⟩ := h
  exact (restart_any F d s n keep torn w h1 hf).mono fun e w' ⟨he, hd, ho⟩ => ⟨he, pair_d h2 h3 h4 h5 hd ho (fun k hk => .inl hk) hY⟩
theorem pair_mrs (W : World) (Y : Nat → Prop) (d m : Nat) (s t : Dk) (n : Nat) (keep torn : Int) (w : World) (h : Pair W Y w d m s t) (hf : Fine t n) (hY : ∀ k, Y k → k < w.heap.size) :
    Calls Try.prog 29 #[.pointer (some ⟨m, 0, none⟩), .int .i64 keep, .int .i64 torn] w fun e w' => e = .returned (.tuple #[]) ∧ Pair W Y w' d m s (restarted t keep torn) ∧ Only (fun k => W.heap.size ≤ k ∧ ¬ Y k) w w' := by
  obtain ⟨F, G, h1, h2, h3, h4, h5⟩ := h
  exact (rkRestart G m t n keep torn w h2 hf).mono fun e w' ⟨he, hd, ho⟩ => ⟨he, pair_m h1 h3 h4 h5 hd ho (fun k hk => .inl hk) hY⟩
theorem pair_darm (W : World) (Y : Nat → Prop) (d m : Nat) (s t : Dk) (n : Int) (w : World) (h : Pair W Y w d m s t) (hn : 0 ≤ n) (hY : ∀ k, Y k → k < w.heap.size) :
    Calls Try.prog 23 #[.pointer (some ⟨d, 0, none⟩), .int .i64 n] w fun e w' => e = .returned (.int .i64 0) ∧ Pair W Y w' d m { s with armed := n } t ∧ Only (fun k => W.heap.size ≤ k ∧ ¬ Y k) w w' := by
  obtain ⟨F, G, h1, h2, h3, h4, h5⟩ := h
  have hFd := h1.2.2.1
  exact (arm_any F d s n w h1 hn).mono fun e w' ⟨he, hd, ho⟩ => ⟨he, pair_d h2 h3 h4 h5 hd (ho.mono (fun k _ e => by subst e; exact hFd)) (fun k hk => .inl hk) hY⟩
theorem Pair.arm {W w : World} {Y : Nat → Prop} {d m : Nat} {s t : Dk} (h : Pair W Y w d m s t) (hY : ∀ k, Y k → k < w.heap.size) (n : Int) : Pair W Y (w.setCell ⟨m, 3, none⟩ (.int .i64 n)) d m s { t with armed := n } ∧ Only (fun k => W.heap.size ≤ k ∧ ¬ Y k) w (w.setCell ⟨m, 3, none⟩ (.int .i64 n)) := by
  obtain ⟨F, G, h1, h2, h3, h4, h5⟩ := h
  have hGm := h2.1
  exact pair_m h1 h3 h4 h5 (h2.setArmed n) ((Only.refl G w).setCell (p := ⟨m, 3, none⟩) (.inl hGm) _) (fun k hk => .inl hk) hY
/-- What a Read tells. -/
def rdL (st : Dk) (i : Int) : List UInt8 := if lookE st i ≠ 0 then [] else (view st).getD i.toNat []
theorem pair_drd (W : World) (Y : Nat → Prop) (d m : Nat) (s t : Dk) (n : Nat) (i : Int) (w : World) (h : Pair W Y w d m s t) (hf : Fine s n) :
    Calls Try.prog 21 #[.pointer (some ⟨d, 0, none⟩), .int .i64 i] w fun e w' => ∃ v, e = .returned (.tuple #[v, .int .i64 (lookE s i)]) ∧ Bytes w' v (rdL s i) ∧ Pair W Y w' d m s t ∧ Only (fun _ => False) w w' := by
  have hp := h
  obtain ⟨F, G, h1, h2, h3, h4, h5⟩ := h
  unfold rdL
  by_cases hl : lookE s i ≠ 0
  · rw [if_pos hl]
    exact (read_look F d s i w h1 hl).mono fun e w' ⟨he, ho⟩ => ⟨_, he, ⟨none, 0, rfl, Nat.le_refl _, by decide, fun h => absurd h (by simp)⟩, hp.only ho (fun _ _ h => h.elim), ho⟩
  · have hl0 := Classical.not_not.1 hl
    rw [if_neg hl, hl0]
    obtain ⟨q0, q1, q2⟩ := look_in hl0
    obtain ⟨j, rfl⟩ := Int.eq_ofNat_of_zero_le q0
    refine (read_any F d s n j w h1 hl0 hf).mono ?_
    rintro e w' ⟨g, hg, he, hb, ho⟩
    exact ⟨_, he, by rw [Int.toNat_natCast]; exact bytes_told ⟨g, hg, rfl, hb⟩ (disk_len64 h1 (by omega)), hp.only ho (fun _ _ h => h.elim), ho⟩
theorem pair_mrd (W : World) (Y : Nat → Prop) (d m : Nat) (s t : Dk) (n : Nat) (i : Int) (w : World) (h : Pair W Y w d m s t) (hf : Fine t n) :
    Calls Try.prog 30 #[.pointer (some ⟨m, 0, none⟩), .int .i64 i] w fun e w' => e = .returned (.tuple #[.string ⟨(rdL t i).toArray⟩, .int .i64 (lookE t i)]) ∧ w = w' := by
  obtain ⟨F, G, h1, h2, h3, h4, h5⟩ := h
  have hm := hf.small
  unfold rdL
  by_cases hl : lookE t i ≠ 0
  · rw [if_pos hl]
    exact rkRead_bad G m t i w h2 hl
  · have hl0 := Classical.not_not.1 hl
    rw [if_neg hl, hl0]
    obtain ⟨q0, q1, q2⟩ := look_in hl0
    obtain ⟨j, rfl⟩ := Int.eq_ofNat_of_zero_le q0
    rw [Int.toNat_natCast]
    exact rkRead G m t j w h2 (by omega) q2 (by have := hf.wait; omega) (fun p hp => (hf.ix p hp).1)
theorem pair_new (W : World) (n : Nat) (w : World) (hW : Only (fun _ => False) W w) (h : 1 ≤ n) (h' : n ≤ 4096) :
    Calls Try.prog 17 #[.int .i64 n] w fun e w' => ∃ d, e = .returned (.tuple #[.pointer (some ⟨d, 0, none⟩), .int .i64 0]) ∧
      Hid (Calls Try.prog 26 #[.int .i64 n] w' fun e w2 => e = .returned (.tuple #[.pointer (some ⟨w'.heap.size, 0, none⟩), .int .i64 0]) ∧ Pair W (fun _ => False) w2 d w'.heap.size (fresh n) (fresh n)) := by
  refine (new_any n w h h').mono ?_
  rintro e w' ⟨d, he, hb, hd, ho⟩
  refine ⟨d, he, Lib.hid ?_⟩
  refine (rkNew n w' h h').mono ?_
  rintro e w2 ⟨he2, hr, ho2⟩
  refine ⟨he2, _, _, hd.only ho2 (fun _ _ _ h => h), hr.strict, fun k hk => ⟨Nat.le_trans hW.size hk.1, Nat.lt_of_lt_of_le hk.2 ho2.size, fun hx => by have := hk.2; have := hx.1; omega, fun h => h⟩, fun k hk => ⟨Nat.le_trans (Nat.le_trans hW.size ho.size) hk.1, hk.2, fun h => h⟩, hW.trans (ho.trans ho2)⟩
end Go.Proofs.Ytlkglhgndfhjeaa
