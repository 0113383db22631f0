/- The reference's disk (columbaryref01): Write. -/
import Derived.Test.YtlkglhgndfhjeaaRkD
namespace Go.Proofs.Ytlkglhgndfhjeaa
open Go Go.RowKit
set_option linter.unusedVariables false
set_option linter.unusedSimpArgs false
set_option maxRecDepth 100000

theorem rkWrite_bad (F : Nat → Prop) (b : Nat) (st : Dk) (i : Int) (v : Value) (w : World) (h : RkAt w F b st) (hl : lookE st i ≠ 0) :
    Calls Try.prog 27 #[.pointer (some ⟨b, 0, none⟩), .int .i64 i, v] w fun e w' => e = .returned (.int .i64 (lookE st i)) ∧ w = w' := by
  have hr := rkRead_bad F b st i w h hl
  have hb : (lookE st i != 0) = true := by simpa using hl
  obtain ⟨E, hE⟩ : ∃ E, lookE st i = E := ⟨_, rfl⟩
  rw [hE] at hb hl hr ⊢
  have HR := Lib.hid hr; clear hr h hE
  go_enter Try.func27, Try.ntmps27
  go_wp2_with fail
  refine HR.out.mono ?_
  rintro e w1 ⟨rfl, rfl⟩
  go_wp2_with fail
  go_ret
  exact ⟨rfl, rfl⟩
theorem rkWrite_long (F : Nat → Prop) (b : Nat) (st : Dk) (m : Nat) (i : Int) (v : Value) (l : List UInt8) (w : World) (h : RkAt w F b st) (hl : lookE st i = 0) (hf : Fine st m) (hv : Bytes w v l) (h64 : 64 < l.length) :
    Calls Try.prog 27 #[.pointer (some ⟨b, 0, none⟩), .int .i64 i, v] w fun e w' => e = .returned (.int .i64 2) ∧ w = w' := by
  obtain ⟨a, cap, rfl, h1, h2, h3⟩ := hv
  have hi : 0 ≤ i ∧ i < st.sure.length ∧ st.off = false := by
    unfold lookE at hl
    by_cases q : i < 0 ∨ (st.sure.length : Int) ≤ i
    · rw [if_pos q] at hl; cases hl
    · rw [if_neg q] at hl
      refine ⟨by omega, by omega, ?_⟩
      cases ho : st.off
      · rfl
      · rw [ho] at hl; simp at hl
  obtain ⟨j, rfl⟩ := Int.eq_ofNat_of_zero_le hi.1
  have hm := hf.small
  have hr := rkRead F b st j w h (by omega) hi.2.2 (by have := hf.wait; omega) (fun p hp => (hf.ix p hp).1)
  have hb1 : (l.length : Int) ≤ 9223372036854775807 := by omega
  have t1 : decide ((64 : Int) < (l.length : Int)) = true := by simp; omega
  have HR := Lib.hid hr; clear hr h hf h3 hi hl
  go_enter Try.func27, Try.ntmps27
  go_wp2_with fail
  refine HR.out.mono ?_
  rintro e w1 ⟨rfl, rfl⟩
  go_wp2_with fail
  go_ret
  exact ⟨rfl, rfl⟩
theorem begun_with (st : Dk) (W : List (Int × List UInt8)) : begun { st with wait := W } = { begun st with wait := W } := by
  unfold begun
  by_cases h : 0 < st.armed
  · simp only [h, if_true]
  · simp only [h, if_false]
theorem wrote_eq (st : Dk) (i : Int) (l : List UInt8) : wrote st i l = begun { st with wait := st.wait ++ [(i, pad64 l)] } := by
  rw [begun_with]; unfold wrote; rw [begun_wait]
theorem infoWr : (Try.prog.info? 88).map (fun i => (i.zero, i.size, i.bytes)) = some (some (.agg #[.int .i64 0, .string ByteArray.empty]), 2, 24) := by kernel_rfl
/-- One more write waits. -/
theorem RkAt.setWait {F G : Nat → Prop} {w w' : World} {b : Nat} {st : Dk} (h : RkAt w F b st) {aL : Option Addr} {cL : Nat} (hc : w.cell? ⟨b, 1, none⟩ = some (.slice aL st.wait.length cL)) (ho : Only (fun k => (Value.slice aL st.wait.length cL).ownBlock = some k) w w') {v' : Value} {p : Int × List UInt8} (hp : p.2.length = 64)
    (hown : w'.ownsRow 0 88 2 v' (st.wait.length + 1) ((st.wait.map wr2).flatten ++ wr2 p)) (hG : ∀ k, F k → G k) (hn : ∀ k, v'.ownBlock = some k → (Value.slice aL st.wait.length cL).ownBlock = some k ∨ w.heap.size ≤ k) (hN : ∀ k, w.heap.size ≤ k → G k) :
    RkAt (w'.setCell ⟨b, 1, none⟩ v') G b { st with wait := st.wait ++ [p] } := by
  obtain ⟨h1, h2, h2a, h2b, vS, vL, h3, h4, h5, h6, h7, h8⟩ := h
  have e : vL = .slice aL st.wait.length cL := by simpa [World.cell?, h3] using hc
  subst e
  have hlt := (Array.getElem?_eq_some_iff.1 h3).1
  have h3' : w'.heap[b]? = _ := (ho.block b hlt (fun e => (h7 b e).1 rfl)).trans h3
  have h4' := own_only' h4 ho (fun k hk e => h8 k hk e)
  have hnb : ∀ k, v'.ownBlock = some k → k ≠ b := fun k hk e => by
    rcases hn k hk with h | h
    · exact (h7 k h).1 e
    · omega
  have o := (Only.refl (fun k => k = b) w').setCell (p := ⟨b, 1, none⟩) (.inl rfl) v'
  refine ⟨hG _ h1, h2, h2a, fun q hq => ?_, vS, v', heap_set (o := 1) h3' _, own_only' h4' o (fun k hk e => (h6 k hk).1 e), ?_, fun k hk => ⟨(h6 k hk).1, hG _ (h6 k hk).2⟩, fun k hk => ⟨hnb k hk, ?_⟩, fun k hk e => ?_⟩
  · rcases List.mem_append.1 hq with h | h
    · exact h2b q h
    · simp at h; subst h; exact hp
  · have hx := own_only' hown o (fun k hk e => hnb k hk e)
    show World.ownsRow _ 0 _ 2 v' (st.wait ++ [p]).length ((st.wait ++ [p]).map wr2).flatten
    rw [List.length_append, List.length_singleton, List.map_append, List.flatten_append]
    simpa using hx
  · rcases hn k hk with h | h
    · exact hG _ (h7 k h).2
    · exact hN k h
  · rcases hn k e with h | h
    · exact h8 k hk h
    · have := ((own_form h4).choose_spec.choose_spec.2.2.2 k hk).2; omega
end Go.Proofs.Ytlkglhgndfhjeaa
