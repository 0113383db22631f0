/- Package block: a disk in memory; New, Len, Wait, Ops, On, look, begin, Arm. -/
import Derived.Test.YtlkglhgndfhjeaaRows
import Derived.Test.YtlkglhgndfhjeaaRowS
import Derived.Deep.QuietTactic
import Derived.BigQuiet
namespace Go.Proofs.Ytlkglhgndfhjeaa
open Go Go.RowKit
set_option linter.unusedVariables false
set_option linter.unusedSimpArgs false

def u8s (l : List UInt8) : List Value := l.map fun b => Value.int .u8 (b.toNat : Int)
theorem u8s_len (l : List UInt8) : (u8s l).length = l.length := by simp [u8s]
theorem u8s_append (a b : List UInt8) : u8s (a ++ b) = u8s a ++ u8s b := by simp [u8s]
theorem u8s_take (l : List UInt8) (k : Nat) : u8s (l.take k) = (u8s l).take k := by simp [u8s]
theorem u8s_drop (l : List UInt8) (k : Nat) : u8s (l.drop k) = (u8s l).drop k := by simp [u8s]

/-- A disk: the durable blocks; the writes that wait; how many operations; in which one the power goes off; is it off. -/
structure Dk where
  sure : List (List UInt8)
  wait : List (Int × List UInt8)
  ops : Int
  armed : Int
  off : Bool

def wr1 (p : Int × List UInt8) : List Value := .int .i64 p.1 :: u8s p.2

def DiskAt (w : World) (F : Nat → Prop) (b : Nat) (st : Dk) : Prop :=
  (∀ r ∈ st.sure, r.length = 64) ∧ (∀ p ∈ st.wait, p.2.length = 64) ∧ F b ∧ st.sure.length ≤ 4096 ∧
  ∃ (gs : Nat) (a : Option Addr) (cap : Nat), b ≠ gs ∧ F gs ∧
    w.heap[b]? = some (.cells #[.slice (some ⟨gs, 0, none⟩) st.sure.length st.sure.length, .slice a st.wait.length cap, .int .i64 st.ops, .int .i64 st.armed, .bool st.off] 80) ∧
    w.heap[gs]? = some (.cells (st.sure.map u8s).flatten.toArray 81) ∧
    RowS w 0 83 65 (.slice a st.wait.length cap) (st.wait.map wr1) ∧
    (∀ k, (Value.slice a st.wait.length cap).ownBlock = some k → k ≠ b ∧ k ≠ gs ∧ F k)

theorem DiskAt.only {S F : Nat → Prop} {w w' : World} {b : Nat} {st : Dk} (h : DiskAt w F b st) (ho : Only S w w') (hS : ∀ k, F k → k < w.heap.size → ¬ S k) : DiskAt w' F b st := by
  obtain ⟨h1, h2, h3, h3', gs, a, cap, h4, h5, h6, h7, h8, h9⟩ := h
  refine ⟨h1, h2, h3, h3', gs, a, cap, h4, h5, ?_, ?_, ?_, h9⟩
  · have hl := (Array.getElem?_eq_some_iff.1 h6).1
    rw [ho.block _ hl (hS _ h3 hl)]; exact h6
  · have hl := (Array.getElem?_eq_some_iff.1 h7).1
    rw [ho.block _ hl (hS _ h5 hl)]; exact h7
  · exact h8.only ho (fun k _ hk => hS k (h9 k hk).2.2 (h8.2.ge hk).2)
theorem DiskAt.mono {F G : Nat → Prop} {w : World} {b : Nat} {st : Dk} (h : DiskAt w F b st) (hG : ∀ k, F k → G k) : DiskAt w G b st := by
  obtain ⟨h1, h2, h3, h3', gs, a, cap, h4, h5, h6, h7, h8, h9⟩ := h
  exact ⟨h1, h2, hG _ h3, h3', gs, a, cap, h4, hG _ h5, h6, h7, h8, fun k hk => ⟨(h9 k hk).1, (h9 k hk).2.1, hG _ (h9 k hk).2.2⟩⟩
theorem DiskAt.lt {F : Nat → Prop} {w : World} {b : Nat} {st : Dk} (h : DiskAt w F b st) : b < w.heap.size := by
  obtain ⟨h1, h2, h3, h3', gs, a, cap, h4, h5, h6, h7, h8, h9⟩ := h
  exact (Array.getElem?_eq_some_iff.1 h6).1
/-- What the walk is told of the fields. -/
theorem DiskAt.cells {F : Nat → Prop} {w : World} {b : Nat} {st : Dk} (h : DiskAt w F b st) :
    ∃ (gs : Nat) (a : Option Addr) (cap : Nat), w.cell? ⟨b, 0, none⟩ = some (.slice (some ⟨gs, 0, none⟩) st.sure.length st.sure.length) ∧
      w.cell? ⟨b, 1, none⟩ = some (.slice a st.wait.length cap) ∧ w.cell? ⟨b, 2, none⟩ = some (.int .i64 st.ops) ∧ w.cell? ⟨b, 3, none⟩ = some (.int .i64 st.armed) ∧
      w.cell? ⟨b, 4, none⟩ = some (.bool st.off) ∧ ∀ o, w.frozen? ⟨b, o, none⟩ = false := by
  obtain ⟨h1, h2, h3, h3', gs, a, cap, h4, h5, h6, h7, h8, h9⟩ := h
  exact ⟨gs, a, cap, by simp [World.cell?, h6], by simp [World.cell?, h6], by simp [World.cell?, h6], by simp [World.cell?, h6], by simp [World.cell?, h6], fun o => by simp [World.frozen?, h6]⟩
/-- The three numbers written anew. -/
theorem DiskAt.setOps {F : Nat → Prop} {w : World} {b : Nat} {st : Dk} (h : DiskAt w F b st) (n : Int) : DiskAt (w.setCell ⟨b, 2, none⟩ (.int .i64 n)) F b { st with ops := n } := by
  obtain ⟨h1, h2, h3, h3', gs, a, cap, h4, h5, h6, h7, h8, h9⟩ := h
  exact ⟨h1, h2, h3, h3', gs, a, cap, h4, h5, heap_set (o := 2) h6 _, heap_set_ne h7 (Ne.symm h4) _, h8.only ((Only.refl (fun k => k = b) w).setCell (p := ⟨b, 2, none⟩) (.inl rfl) _) (fun k _ hk e => (h9 k hk).1 e), h9⟩
theorem DiskAt.setArmed {F : Nat → Prop} {w : World} {b : Nat} {st : Dk} (h : DiskAt w F b st) (n : Int) : DiskAt (w.setCell ⟨b, 3, none⟩ (.int .i64 n)) F b { st with armed := n } := by
  obtain ⟨h1, h2, h3, h3', gs, a, cap, h4, h5, h6, h7, h8, h9⟩ := h
  exact ⟨h1, h2, h3, h3', gs, a, cap, h4, h5, heap_set (o := 3) h6 _, heap_set_ne h7 (Ne.symm h4) _, h8.only ((Only.refl (fun k => k = b) w).setCell (p := ⟨b, 3, none⟩) (.inl rfl) _) (fun k _ hk e => (h9 k hk).1 e), h9⟩
theorem DiskAt.setOff {F : Nat → Prop} {w : World} {b : Nat} {st : Dk} (h : DiskAt w F b st) (n : Bool) : DiskAt (w.setCell ⟨b, 4, none⟩ (.bool n)) F b { st with off := n } := by
  obtain ⟨h1, h2, h3, h3', gs, a, cap, h4, h5, h6, h7, h8, h9⟩ := h
  exact ⟨h1, h2, h3, h3', gs, a, cap, h4, h5, heap_set (o := 4) h6 _, heap_set_ne h7 (Ne.symm h4) _, h8.only ((Only.refl (fun k => k = b) w).setCell (p := ⟨b, 4, none⟩) (.inl rfl) _) (fun k _ hk e => (h9 k hk).1 e), h9⟩

theorem DiskAt.setWait {F G : Nat → Prop} {w w' : World} {b : Nat} {st : Dk} (h : DiskAt w F b st) {aw : Option Addr} {cw : Nat} (hc : w.cell? ⟨b, 1, none⟩ = some (.slice aw st.wait.length cw))
    (ho : Only (fun k => (Value.slice aw st.wait.length cw).ownBlock = some k) w w') (a3 : Option Addr) (c3 : Nat) (wait : List (Int × List UInt8)) (hl : ∀ p ∈ wait, p.2.length = 64)
    (hr : RowS w' 0 83 65 (.slice a3 wait.length c3) (wait.map wr1)) (hb : ∀ k, (Value.slice a3 wait.length c3).ownBlock = some k → (Value.slice aw st.wait.length cw).ownBlock = some k ∨ w.heap.size ≤ k)
    (hG : ∀ k, F k ∨ w.heap.size ≤ k → G k) : DiskAt (w'.setCell ⟨b, 1, none⟩ (.slice a3 wait.length c3)) G b { st with wait := wait } := by
  obtain ⟨h1, h2, h3, h3', gs, a, cap, h4, h5, h6, h7, h8, h9⟩ := h
  have e : (Value.slice a st.wait.length cap) = .slice aw st.wait.length cw := by
    simp only [World.cell?, h6] at hc
    simpa using hc
  cases e
  have l6 := (Array.getElem?_eq_some_iff.1 h6).1
  have l7 := (Array.getElem?_eq_some_iff.1 h7).1
  have g6 : w'.heap[b]? = _ := (ho.block _ l6 (fun hk => (h9 _ hk).1 rfl)).trans h6
  have g7 : w'.heap[gs]? = _ := (ho.block _ l7 (fun hk => (h9 _ hk).2.1 rfl)).trans h7
  have hk : ∀ k, (Value.slice a3 wait.length c3).ownBlock = some k → k ≠ b ∧ k ≠ gs ∧ G k := by
    intro k hk
    rcases hb k hk with h | h
    · exact ⟨(h9 k h).1, (h9 k h).2.1, hG _ (.inl (h9 k h).2.2)⟩
    · exact ⟨by omega, by omega, hG _ (.inr h)⟩
  exact ⟨h1, hl, hG _ (.inl h3), h3', gs, a3, c3, h4, hG _ (.inl h5), heap_set (o := 1) g6 _, heap_set_ne g7 (Ne.symm h4) _, hr.only ((Only.refl (fun k => k = b) w').setCell (p := ⟨b, 1, none⟩) (.inl rfl) _) (fun k _ hk' e => (hk k hk').1 e), hk⟩

theorem u8s_len' (l : List UInt8) : (u8s l).length = l.length := by simp [u8s]
theorem DiskAt.setSure {F : Nat → Prop} {w : World} {b gs : Nat} {st : Dk} (h : DiskAt w F b st) {n m : Nat} (hc : w.cell? ⟨b, 0, none⟩ = some (.slice (some ⟨gs, 0, none⟩) n m)) (i : Nat) (p : List UInt8)
    (hi : i < st.sure.length) (hp : p.length = 64) : DiskAt (w.setCells gs (i * 64) (u8s p)) F b { st with sure := st.sure.set i p } ∧ Only F w (w.setCells gs (i * 64) (u8s p)) := by
  obtain ⟨h1, h2, h3, h3', g, a, cap, h4, h5, h6, h7, h8, h9⟩ := h
  have e : g = gs := by
    simp only [World.cell?, h6] at hc
    simp at hc; exact hc.1
  subst e
  have hO := setCells_only g (u8s p) (i * 64) w
  have hl : ∀ x ∈ st.sure.map u8s, x.length = 64 := by
    intro x hx
    obtain ⟨y, hy, rfl⟩ := List.mem_map.1 hx
    rw [u8s_len']; exact h1 y hy
  obtain ⟨cur, e1, e2, e3⟩ := setCells_heap g (u8s p) (i * 64) w _ _ _ h7
  have ec : cur = ((st.sure.set i p).map u8s).flatten.toArray := by
    apply Array.ext_getElem?
    intro j
    have hsz : ((st.sure.map u8s).flatten.toArray).size = st.sure.length * 64 := by rw [List.size_toArray, flat_len hl, List.length_map]
    have hle : i * 64 + 64 ≤ st.sure.length * 64 := by omega
    rw [e3 j, u8s_len', hp, hsz, List.map_set, List.getElem?_toArray, List.getElem?_toArray, flat_set_get i (u8s p) hl (by rw [u8s_len', hp]) (by simpa using hi)]
    by_cases hj : i * 64 ≤ j ∧ j < i * 64 + 64
    · rw [if_pos hj, if_pos (by omega)]
    · rw [if_neg hj, if_neg (by omega)]
  rw [ec] at e1
  refine ⟨⟨?_, h2, h3, by simpa using h3', g, a, cap, h4, h5, ?_, e1, ?_, h9⟩, hO.mono (fun k _ hk => by subst hk; exact h5)⟩
  · intro r hr
    rcases List.mem_or_eq_of_mem_set hr with h | h
    · exact h1 r h
    · rw [h]; exact hp
  · rw [hO.block _ (Array.getElem?_eq_some_iff.1 h6).1 h4]
    simpa using h6
  · exact h8.only hO (fun k _ hk e => (h9 k hk).2.1 e)

theorem DiskAt.setNil {F : Nat → Prop} {w : World} {b : Nat} {st : Dk} (h : DiskAt w F b st) : DiskAt (w.setCell ⟨b, 1, none⟩ (.slice none 0 0)) F b { st with wait := [] } := by
  obtain ⟨h1, h2, h3, h3', gs, a, cap, h4, h5, h6, h7, h8, h9⟩ := h
  exact ⟨h1, by simp, h3, h3', gs, none, 0, h4, h5, heap_set (o := 1) h6 _, heap_set_ne h7 (Ne.symm h4) _, RowS.nil _ _ _ _, fun k hk => by cases hk⟩
/-- What the fields' words stand for. -/
theorem DiskAt.view {F : Nat → Prop} {w : World} {b gs n m L cw : Nat} {aw : Option Addr} {st : Dk} (h : DiskAt w F b st) (hc : w.cell? ⟨b, 0, none⟩ = some (.slice (some ⟨gs, 0, none⟩) n m)) (hd : w.cell? ⟨b, 1, none⟩ = some (.slice aw L cw)) :
    b ≠ gs ∧ F gs ∧ w.heap[gs]? = some (.cells (st.sure.map u8s).flatten.toArray 81) ∧ RowS w 0 83 65 (.slice aw st.wait.length cw) (st.wait.map wr1) ∧
      (∀ k, (Value.slice aw st.wait.length cw).ownBlock = some k → k ≠ b ∧ k ≠ gs ∧ F k) := by
  obtain ⟨h1, h2, h3, h3', g, a, cap, h4, h5, h6, h7, h8, h9⟩ := h
  have e : g = gs := by
    simp only [World.cell?, h6] at hc
    simp at hc; exact hc.1
  have e2 : (Value.slice a st.wait.length cap) = .slice aw L cw := by
    simp only [World.cell?, h6] at hd
    simpa using hd
  subst e; cases e2
  exact ⟨h4, h5, h7, h8, h9⟩

/-! ### What only reads -/
theorem dlen_any (F : Nat → Prop) (b : Nat) (st : Dk) (w : World) (h : DiskAt w F b st) :
    Calls Try.prog 31 #[.pointer (some ⟨b, 0, none⟩)] w fun e w' => e = .returned (.int .i64 st.sure.length) ∧ w = w' := by
  obtain ⟨gs, a, cap, c0, c1, c2, c3, c4, fz⟩ := h.cells
  have H := Lib.hid h; clear h
  go_enter Try.func31, Try.ntmps31
  go_wp2
  go_ret
  exact ⟨rfl, rfl⟩
theorem dlen_nil (w : World) :
    Calls Try.prog 31 #[.pointer none] w fun e w' => e = .returned (.int .i64 0) ∧ w = w' := by
  go_enter Try.func31, Try.ntmps31
  go_wp2
  go_ret
  exact ⟨rfl, rfl⟩
theorem dwait_any (F : Nat → Prop) (b : Nat) (st : Dk) (w : World) (h : DiskAt w F b st) :
    Calls Try.prog 22 #[.pointer (some ⟨b, 0, none⟩)] w fun e w' => e = .returned (.int .i64 st.wait.length) ∧ w = w' := by
  obtain ⟨gs, a, cap, c0, c1, c2, c3, c4, fz⟩ := h.cells
  have H := Lib.hid h; clear h
  go_enter Try.func22, Try.ntmps22
  go_wp2
  go_ret
  exact ⟨rfl, rfl⟩
theorem dwait_nil (w : World) :
    Calls Try.prog 22 #[.pointer none] w fun e w' => e = .returned (.int .i64 0) ∧ w = w' := by
  go_enter Try.func22, Try.ntmps22
  go_wp2
  go_ret
  exact ⟨rfl, rfl⟩
theorem dops_any (F : Nat → Prop) (b : Nat) (st : Dk) (w : World) (h : DiskAt w F b st) :
    Calls Try.prog 25 #[.pointer (some ⟨b, 0, none⟩)] w fun e w' => e = .returned (.int .i64 st.ops) ∧ w = w' := by
  obtain ⟨gs, a, cap, c0, c1, c2, c3, c4, fz⟩ := h.cells
  have H := Lib.hid h; clear h
  go_enter Try.func25, Try.ntmps25
  go_wp2
  go_ret
  exact ⟨rfl, rfl⟩
theorem dops_nil (w : World) :
    Calls Try.prog 25 #[.pointer none] w fun e w' => e = .returned (.int .i64 0) ∧ w = w' := by
  go_enter Try.func25, Try.ntmps25
  go_wp2
  go_ret
  exact ⟨rfl, rfl⟩
theorem don_any (F : Nat → Prop) (b : Nat) (st : Dk) (w : World) (h : DiskAt w F b st) :
    Calls Try.prog 24 #[.pointer (some ⟨b, 0, none⟩)] w fun e w' => e = .returned (.bool (!st.off)) ∧ w = w' := by
  obtain ⟨gs, a, cap, c0, c1, c2, c3, c4, fz⟩ := h.cells
  have H := Lib.hid h; clear h
  go_enter Try.func24, Try.ntmps24
  go_wp2
  go_ret
  exact ⟨rfl, rfl⟩
theorem don_nil (w : World) :
    Calls Try.prog 24 #[.pointer none] w fun e w' => e = .returned (.bool false) ∧ w = w' := by
  go_enter Try.func24, Try.ntmps24
  go_wp2
  go_ret
  exact ⟨rfl, rfl⟩

/-- look: is there such a block, and the power on? -/
def lookE (st : Dk) (i : Int) : Int := if i < 0 ∨ (st.sure.length : Int) ≤ i then 1 else if st.off then 12 else 0
theorem look_nil (i : Int) (w : World) :
    Calls Try.prog 46 #[.pointer none, .int .i64 i] w fun e w' => e = .returned (.int .i64 6) ∧ w = w' := by
  go_enter Try.func46, Try.ntmps46
  go_wp2
  go_ret
  exact ⟨rfl, rfl⟩
theorem look_any (F : Nat → Prop) (b : Nat) (st : Dk) (i : Int) (w : World) (h : DiskAt w F b st) :
    Calls Try.prog 46 #[.pointer (some ⟨b, 0, none⟩), .int .i64 i] w fun e w' => e = .returned (.int .i64 (lookE st i)) ∧ w = w' := by
  obtain ⟨gs, a, cap, c0, c1, c2, c3, c4, fz⟩ := h.cells
  have hn := h.2.2.2.1
  have H := Lib.hid h; clear h
  by_cases h1 : i < 0
  · have hE : lookE st i = 1 := by simp [lookE, h1]
    rw [hE]; clear hE
    go_enter Try.func46, Try.ntmps46
    go_wp2
    go_ret
    exact ⟨rfl, rfl⟩
  · by_cases h2 : (st.sure.length : Int) ≤ i
    · have hE : lookE st i = 1 := by simp [lookE, h2]
      rw [hE]; clear hE
      go_enter Try.func46, Try.ntmps46
      go_wp2
      go_ret
      exact ⟨rfl, rfl⟩
    · cases ho : st.off
      · have hE : lookE st i = 0 := by simp [lookE, h1, h2, ho]
        rw [hE]; clear hE
        go_enter Try.func46, Try.ntmps46
        go_wp2
        go_ret
        exact ⟨rfl, rfl⟩
      · have hE : lookE st i = 12 := by simp [lookE, h1, h2, ho]
        rw [hE]; clear hE
        go_enter Try.func46, Try.ntmps46
        go_wp2
        go_ret
        exact ⟨rfl, rfl⟩

/-- begin: one more operation. -/
def begun (st : Dk) : Dk :=
  if 0 < st.armed then { st with ops := st.ops + 1, armed := st.armed - 1, off := st.armed - 1 == 0 } else { st with ops := st.ops + 1 }
theorem begin_any (F : Nat → Prop) (b : Nat) (st : Dk) (w : World) (h : DiskAt w F b st) (hops : 0 ≤ st.ops ∧ st.ops ≤ 1000000000) (harm : 0 ≤ st.armed ∧ st.armed ≤ 9223372036854775807) :
    Calls Try.prog 47 #[.pointer (some ⟨b, 0, none⟩)] w fun e w' => e = .returned (.bool (!(begun st).off)) ∧ DiskAt w' F b (begun st) ∧ Only (fun k => k = b) w w' := by
  obtain ⟨gs, a, cap, c0, c1, c2, c3, c4, fz⟩ := h.cells
  have H := Lib.hid h; clear h
  by_cases h1 : 0 < st.armed
  · have hE : begun st = { st with ops := st.ops + 1, armed := st.armed - 1, off := st.armed - 1 == 0 } := by simp [begun, h1]
    rw [hE]; clear hE
    go_enter Try.func47, Try.ntmps47
    go_wp2
    go_ret
    exact ⟨rfl, ((H.out.setOps _).setArmed _).setOff _, by (repeat' (first | (with_reducible exact Only.refl _ _) | (with_reducible assumption) | (with_reducible refine Only.drew ?_) | (with_reducible refine Only.drewN ?_ _) | (with_reducible refine Only.alloc ?_ _) | (with_reducible refine Only.setCell ?_ ?_ _) | (first | exact Or.inl rfl | exact Or.inl (Or.inl rfl) | exact Or.inl (Or.inr rfl) | (simp; omega) | (simp; done) | omega)))⟩
  · have hE : begun st = { st with ops := st.ops + 1 } := by simp [begun, h1]
    rw [hE]; clear hE
    go_enter Try.func47, Try.ntmps47
    go_wp2
    go_ret
    exact ⟨rfl, H.out.setOps _, by (repeat' (first | (with_reducible exact Only.refl _ _) | (with_reducible assumption) | (with_reducible refine Only.drew ?_) | (with_reducible refine Only.drewN ?_ _) | (with_reducible refine Only.alloc ?_ _) | (with_reducible refine Only.setCell ?_ ?_ _) | (first | exact Or.inl rfl | exact Or.inl (Or.inl rfl) | exact Or.inl (Or.inr rfl) | (simp; omega) | (simp; done) | omega)))⟩
end Go.Proofs.Ytlkglhgndfhjeaa
