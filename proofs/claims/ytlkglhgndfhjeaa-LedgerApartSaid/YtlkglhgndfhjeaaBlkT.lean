/- Package block: Sync, Arm, New; what a nil disk answers. -/
import Derived.Test.YtlkglhgndfhjeaaBlkS
import Derived.Laws.MakeOwn
namespace Go.Proofs.Ytlkglhgndfhjeaa
open Go Go.RowKit
set_option linter.unusedVariables false
set_option linter.unusedSimpArgs false

/-- The counts are small, and each write that waits has its block. -/
structure Fine (st : Dk) (m : Nat) : Prop where
  ops : 0 ≤ st.ops ∧ st.ops ≤ m
  armed : 0 ≤ st.armed ∧ st.armed ≤ 9223372036854775807
  wait : st.wait.length ≤ m
  ix : ∀ p ∈ st.wait, 0 ≤ p.1 ∧ p.1 < st.sure.length
  small : m ≤ 1000000000

def synced (st : Dk) : Dk := if (begun st).off then begun st else settleD (begun st) (begun st).wait.length

theorem sync_nil (w : World) :
    Calls Try.prog 19 #[.pointer none] w fun e w' => e = .returned (.int .i64 6) ∧ w = w' := by
  go_enter Try.func19, Try.ntmps19
  go_wp2_with fail
  refine (look_nil _ _).mono ?_
  rintro e w1 ⟨rfl, rfl⟩
  go_wp2
  go_ret
  exact ⟨rfl, rfl⟩
theorem sync_look (F : Nat → Prop) (b : Nat) (st : Dk) (w : World) (h : DiskAt w F b st) (hl : lookE st 0 ≠ 0) :
    Calls Try.prog 19 #[.pointer (some ⟨b, 0, none⟩)] w fun e w' => e = .returned (.int .i64 (lookE st 0)) ∧ w = w' := by
  have hb : (lookE st 0 == 0) = false := by simpa using hl
  obtain ⟨E, hE⟩ : ∃ E, lookE st 0 = E := ⟨_, rfl⟩
  rw [hE] at hb hl ⊢
  have HE := Lib.hid hE; clear hE
  go_enter Try.func19, Try.ntmps19
  go_wp2_with fail
  refine (look_any F b st 0 _ h).mono ?_
  rintro e w1 ⟨rfl, rfl⟩
  rw [HE.out]
  go_wp2
  go_ret
  exact ⟨rfl, rfl⟩
theorem sync_any (F : Nat → Prop) (b : Nat) (st : Dk) (m : Nat) (w : World) (h : DiskAt w F b st) (hl : lookE st 0 = 0) (hf : Fine st m) :
    Calls Try.prog 19 #[.pointer (some ⟨b, 0, none⟩)] w fun e w' => e = .returned (.int .i64 (if (begun st).off then 12 else 0)) ∧ DiskAt w' F b (synced st) ∧ Only F w w' := by
  have hFb := h.2.2.1
  have HL := Lib.hid hl; clear hl
  have HF := Lib.hid hf; clear hf
  have hm := HF.out.small
  go_enter Try.func19, Try.ntmps19
  go_wp2_with fail
  refine (look_any F b st 0 _ h).mono ?_
  rintro e w1 ⟨rfl, rfl⟩
  rw [HL.out]
  go_wp2_with fail
  refine (begin_any F b st _ h ⟨HF.out.ops.1, by have := HF.out.ops.2; omega⟩ HF.out.armed).mono ?_
  rintro e w1 ⟨rfl, hD, hO⟩
  obtain ⟨gs, aw, cw, c0, c1, c2, c3, c4, fz⟩ := hD.cells
  have HD := Lib.hid hD; have HO := Lib.hid hO; clear hD hO
  have hwl := HF.out.wait
  have hx : ∀ p ∈ (begun st).wait, 0 ≤ p.1 ∧ p.1 < (begun st).sure.length := by rw [begun_wait, begun_sure]; exact HF.out.ix
  have HX := Lib.hid hx; clear hx
  have hbw : (begun st).wait.length ≤ 1000000000 := by rw [begun_wait]; omega
  cases hoff : (begun st).off
  · have hs : synced st = settleD (begun st) (begun st).wait.length := by simp [synced, hoff]
    have HS := Lib.hid hs; clear hs
    simp only [Bool.not_false]
    go_wp2_with fail
    refine (settle_any F b (begun st) (begun st).wait.length _ HD.out (Nat.le_refl _) hbw HX.out).mono ?_
    rintro e w2 ⟨rfl, hD2, hO2⟩
    have HD2 := Lib.hid hD2; have HO2 := Lib.hid hO2; clear hD2 hO2
    clear c0 c1 c2 c3 c4 fz
    go_wp2
    all_goals first
      | exact absurd (‹(begun st).off = true›) (by rw [hoff]; decide)
      | (go_ret
         rw [HS.out]
         exact ⟨rfl, HD2.out, (HO.out.mono (fun k _ e => by subst e; exact hFb)).trans HO2.out⟩)
  · have hs : synced st = begun st := by simp [synced, hoff]
    have HS := Lib.hid hs; clear hs
    simp only [Bool.not_true]
    go_wp2
    all_goals first
      | exact absurd hoff (‹¬ (begun st).off = true›)
      | (go_ret
         rw [HS.out]
         exact ⟨rfl, HD.out, HO.out.mono (fun k _ e => by subst e; exact hFb)⟩)

theorem arm_nil (n : Int) (w : World) :
    Calls Try.prog 23 #[.pointer none, .int .i64 n] w fun e w' => e = .returned (.int .i64 6) ∧ w = w' := by
  go_enter Try.func23, Try.ntmps23
  go_wp2
  go_ret
  exact ⟨rfl, rfl⟩
theorem arm_neg (b : Nat) (n : Int) (w : World) (hn : n < 0) :
    Calls Try.prog 23 #[.pointer (some ⟨b, 0, none⟩), .int .i64 n] w fun e w' => e = .returned (.int .i64 1) ∧ w = w' := by
  go_enter Try.func23, Try.ntmps23
  go_wp2
  go_ret
  exact ⟨rfl, rfl⟩
theorem arm_any (F : Nat → Prop) (b : Nat) (st : Dk) (n : Int) (w : World) (h : DiskAt w F b st) (hn : 0 ≤ n) :
    Calls Try.prog 23 #[.pointer (some ⟨b, 0, none⟩), .int .i64 n] w fun e w' => e = .returned (.int .i64 0) ∧ DiskAt w' F b { st with armed := n } ∧ Only (fun k => k = b) w w' := by
  obtain ⟨gs, a, cap, c0, c1, c2, c3, c4, fz⟩ := h.cells
  have H := Lib.hid h; clear h
  go_enter Try.func23, Try.ntmps23
  go_wp2
  go_ret
  exact ⟨rfl, H.out.setArmed n, (Only.refl (fun k => k = b) w).setCell (p := ⟨b, 3, none⟩) (.inl rfl) _⟩

theorem read_nil (i : Int) (w : World) :
    Calls Try.prog 21 #[.pointer none, .int .i64 i] w fun e w' => e = .returned (.tuple #[.slice none 0 0, .int .i64 6]) ∧ Only (fun _ => False) w w' := by
  go_enter Try.func21, Try.ntmps21
  go_wp2_with fail
  refine (look_nil _ _).mono ?_
  rintro e w1 ⟨rfl, rfl⟩
  go_wp2
  go_ret2
  exact ⟨rfl, by (repeat' (first | (with_reducible exact Only.refl _ _) | (with_reducible assumption) | (with_reducible refine Only.drew ?_) | (with_reducible refine Only.drewN ?_ _) | (with_reducible refine Only.alloc ?_ _) | (with_reducible refine Only.setCell ?_ ?_ _) | (first | exact Or.inl rfl | exact Or.inl (Or.inl rfl) | exact Or.inl (Or.inr rfl) | (simp; omega) | (simp; done) | omega)))⟩
theorem read_look (F : Nat → Prop) (b : Nat) (st : Dk) (i : Int) (w : World) (h : DiskAt w F b st) (hl : lookE st i ≠ 0) :
    Calls Try.prog 21 #[.pointer (some ⟨b, 0, none⟩), .int .i64 i] w fun e w' => e = .returned (.tuple #[.slice none 0 0, .int .i64 (lookE st i)]) ∧ Only (fun _ => False) w w' := by
  have hb : (lookE st i == 0) = false := by simpa using hl
  obtain ⟨E, hE⟩ : ∃ E, lookE st i = E := ⟨_, rfl⟩
  rw [hE] at hb hl ⊢
  have HE := Lib.hid hE; clear hE
  go_enter Try.func21, Try.ntmps21
  go_wp2_with fail
  refine (look_any F b st i _ h).mono ?_
  rintro e w1 ⟨rfl, rfl⟩
  rw [HE.out]
  go_wp2
  go_ret2
  exact ⟨rfl, by (repeat' (first | (with_reducible exact Only.refl _ _) | (with_reducible assumption) | (with_reducible refine Only.drew ?_) | (with_reducible refine Only.drewN ?_ _) | (with_reducible refine Only.alloc ?_ _) | (with_reducible refine Only.setCell ?_ ?_ _) | (first | exact Or.inl rfl | exact Or.inl (Or.inl rfl) | exact Or.inl (Or.inr rfl) | (simp; omega) | (simp; done) | omega)))⟩
theorem restart_nil (i j : Int) (w : World) :
    Calls Try.prog 20 #[.pointer none, .int .i64 i, .int .i64 j] w fun e w' => e = .returned (.int .i64 6) ∧ Only (fun _ => False) w w' := by
  go_enter Try.func20, Try.ntmps20
  go_wp2
  go_ret
  exact ⟨rfl, by (repeat' (first | (with_reducible exact Only.refl _ _) | (with_reducible assumption) | (with_reducible refine Only.drew ?_) | (with_reducible refine Only.drewN ?_ _) | (with_reducible refine Only.alloc ?_ _) | (with_reducible refine Only.setCell ?_ ?_ _) | (first | exact Or.inl rfl | exact Or.inl (Or.inl rfl) | exact Or.inl (Or.inr rfl) | (simp; omega) | (simp; done) | omega)))⟩
theorem write_nil' (i : Int) (v : Value) (w : World) :
    Calls Try.prog 18 #[.pointer none, .int .i64 i, v] w fun e w' => e = .returned (.int .i64 6) ∧ Only (fun _ => False) w w' := (write_nil i v w).mono fun e w' ⟨h, h'⟩ => ⟨h, h' ▸ Only.refl _ _⟩

/-! ### New -/
def fresh (n : Nat) : Dk := ⟨List.replicate n zeros64, [], 0, 0, false⟩
theorem new_bad (n : Int) (w : World) (h : n < 1 ∨ 4096 < n) :
    Calls Try.prog 17 #[.int .i64 n] w fun e w' => e = .returned (.tuple #[.pointer none, .int .i64 1]) ∧ Only (fun _ => False) w w' := by
  rcases h with h | h
  · go_enter Try.func17, Try.ntmps17
    go_wp2
    go_ret2
    exact ⟨rfl, by (repeat' (first | (with_reducible exact Only.refl _ _) | (with_reducible assumption) | (with_reducible refine Only.drew ?_) | (with_reducible refine Only.drewN ?_ _) | (with_reducible refine Only.alloc ?_ _) | (with_reducible refine Only.setCell ?_ ?_ _) | (first | exact Or.inl rfl | exact Or.inl (Or.inl rfl) | exact Or.inl (Or.inr rfl) | (simp; omega) | (simp; done) | omega)))⟩
  · have h1 : ¬ n < 1 := by omega
    go_enter Try.func17, Try.ntmps17
    go_wp2
    go_ret2
    exact ⟨rfl, by (repeat' (first | (with_reducible exact Only.refl _ _) | (with_reducible assumption) | (with_reducible refine Only.drew ?_) | (with_reducible refine Only.drewN ?_ _) | (with_reducible refine Only.alloc ?_ _) | (with_reducible refine Only.setCell ?_ ?_ _) | (first | exact Or.inl rfl | exact Or.inl (Or.inl rfl) | exact Or.inl (Or.inr rfl) | (simp; omega) | (simp; done) | omega)))⟩
def zeroB : Array Value := (u8s zeros64).toArray
theorem infoB : (Try.prog.info? 81).map (fun i => (i.zero, i.size, i.bytes)) = some (some (.agg zeroB), 64, 64) := by kernel_rfl
theorem rep_get (m i : Nat) (x : Value) (h : i < m) : (List.replicate m x).toArray[i]? = some x := by
  rw [List.getElem?_toArray, List.getElem?_replicate, if_pos h]
theorem u8s_rep (m : Nat) : u8s (List.replicate m 0) = List.replicate m (.int .u8 0) := by
  unfold u8s; rw [List.map_replicate]; rfl
theorem made_blocks (n : Nat) : madeCells zeroB (n * 64) = ((List.replicate n zeros64).map u8s).flatten.toArray := by
  have hzs : zeroB.size = 64 := by unfold zeroB; rw [List.size_toArray, u8s_len]; rfl
  have hz : ∀ i, i < 64 → zeroB[i]? = some (.int .u8 0) := by
    intro i hi
    unfold zeroB zeros64
    rw [u8s_rep]; exact rep_get 64 i _ hi
  generalize zeroB = zb at hzs hz
  apply Array.ext_getElem?
  intro j
  have hl : ∀ x ∈ (List.replicate n zeros64).map u8s, x.length = 64 := by
    intro x hx
    obtain ⟨y, hy, rfl⟩ := List.mem_map.1 hx
    rw [u8s_len, (List.eq_of_mem_replicate hy)]; rfl
  have hsz : ((List.replicate n zeros64).map u8s).flatten.length = n * 64 := by rw [flat_len hl, List.length_map, List.length_replicate]
  have h2 : ∀ v ∈ ((List.replicate n zeros64).map u8s).flatten, v = .int .u8 0 := by
    intro v hv
    obtain ⟨l, hl, hv⟩ := List.mem_flatten.1 hv
    obtain ⟨y, hy, rfl⟩ := List.mem_map.1 hl
    rw [List.eq_of_mem_replicate hy] at hv
    unfold zeros64 at hv
    rw [u8s_rep] at hv
    exact List.eq_of_mem_replicate hv
  generalize ((List.replicate n zeros64).map u8s).flatten = fl at hsz h2 ⊢
  by_cases hj : j < n * 64
  · have h1 : (madeCells zb (n * 64))[j]? = some (.int .u8 0) := by
      have hz' := hz (j % 64) (Nat.mod_lt _ (by omega))
      have hlt : j % 64 < zb.size := by rw [hzs]; exact Nat.mod_lt _ (by omega)
      have e : (madeCells zb (n * 64))[j]? = some (zb[j % 64]!) := by
        unfold madeCells
        rw [Array.getElem?_map, Array.getElem?_range, if_pos hj, hzs]; rfl
      rw [e, getElem!_pos zb _ hlt]
      rw [Array.getElem?_eq_getElem hlt] at hz'
      exact hz'
    rw [h1, List.getElem?_toArray, List.getElem?_eq_getElem (by omega), h2 _ (List.getElem_mem _)]
  · rw [Array.getElem?_eq_none (by rw [size_madeCells]; omega), List.getElem?_toArray, List.getElem?_eq_none (by omega)]

/-- The new disk. -/
def NewPost (w : World) (n : Nat) (e : Ending) (w' : World) : Prop :=
  ∃ b, e = .returned (.tuple #[.pointer (some ⟨b, 0, none⟩), .int .i64 0]) ∧ w.heap.size ≤ b ∧ DiskAt w' (fun k => w.heap.size ≤ k ∧ k < w'.heap.size) b (fresh n) ∧ Only (fun _ => False) w w'
theorem new_any (n : Nat) (w : World) (h : 1 ≤ n) (h' : n ≤ 4096) :
    Calls Try.prog 17 #[.int .i64 n] w (NewPost w n) := by
  obtain ⟨i0, hi, hz0, hz1, hz2⟩ := info_parts infoB
  have hm := run_make (P := Try.prog) w 77 81 i0 (.agg zeroB) Try.underlying77 hi hz0 .i64 .i64 n n (by omega) (by omega) (by rw [hz2]; omega) (by omega)
  have hzc : (Value.agg zeroB).cells = zeroB := rfl
  rw [hz1, hzc, Int.toNat_natCast, made_blocks] at hm
  generalize hfl : ((List.replicate n zeros64).map u8s).flatten.toArray = fl at hm
  have HFL := Lib.hid hfl; clear hfl hi hz0 hz1 hz2 hzc
  have e1 : decide ((n : Int) < 1) = false := by simp; omega
  have e2 : decide ((4096 : Int) < (n : Int)) = false := by simp; omega
  go_enter Try.func17, Try.ntmps17
  go_wp2
  go_ret2
  refine ⟨w.heap.size + 1, rfl, by omega, ⟨?_, (by intro p hp; cases hp), ⟨by omega, by simp⟩, by simp [fresh]; omega, w.heap.size, none, 0, by omega, ⟨Nat.le_refl _, by simp; omega⟩, ?_, ?_, RowS.nil _ _ _ _, (fun k hk => by cases hk)⟩, by (repeat' (first | (with_reducible exact Only.refl _ _) | (with_reducible assumption) | (with_reducible refine Only.drew ?_) | (with_reducible refine Only.drewN ?_ _) | (with_reducible refine Only.alloc ?_ _) | (with_reducible refine Only.setCell ?_ ?_ _) | (first | exact Or.inl rfl | exact Or.inl (Or.inl rfl) | exact Or.inl (Or.inr rfl) | (simp; omega) | (simp; done) | omega)))⟩
  · intro r hr
    rw [List.eq_of_mem_replicate hr]; rfl
  · have hl : (fresh n).sure.length = n := List.length_replicate
    rw [hl]
    have e : w.heap.size + 1 = (w.alloc (.cells fl 81)).heap.size := by simp
    rw [e]; exact heap_new _ _
  · show _ = some (Obj.cells ((List.replicate n zeros64).map u8s).flatten.toArray _)
    rw [HFL.out]
    exact heap_old (heap_new w _) _
end Go.Proofs.Ytlkglhgndfhjeaa
