/- []columbarylaw01.Act, opened. -/
import Derived.Test.YtlkglhgndfhjeaaBlkP
import Derived.ChangeSlices
namespace Go.Proofs.Ytlkglhgndfhjeaa
open Go Go.RowKit Go.ChangeShapes Go.WideShapes
set_option linter.unusedVariables false
set_option linter.unusedSimpArgs false

theorem list5 {α : Type} {cs : List α} (h : cs.length = 5) : ∃ a b c d e, cs = [a, b, c, d, e] := by
  match cs, h with
  | [a, b, c, d, e], _ => exact ⟨a, b, c, d, e, rfl⟩
theorem i64_bd {n : Int} (h : (Lit.int .i64 n).wf = true) : -9223372036854775808 ≤ n ∧ n ≤ 9223372036854775807 := by
  simp [Lit.wf, IntKind.min, IntKind.max, IntKind.signed, IntKind.bits] at h; omega
theorem u8_bd {n : Int} (h : (Lit.int .u8 n).wf = true) : 0 ≤ n ∧ n ≤ 255 := by
  simp [Lit.wf, IntKind.min, IntKind.max, IntKind.signed, IntKind.bits] at h; omega
/-- v is the bytes l; where there are any they lie below B. -/
def Old (w : World) (B : Nat) (v : Value) (l : List UInt8) : Prop := Bytes w v l ∧ (0 < l.length → ∀ k, v.ownBlock = some k → k < B)
theorem bytes_of_trod {H : Type} {enc : TypeId × Value → H} {w : World} {n : Nat} {cs : List Value} {x : DataW H × List MemPlace}
    (h : DataW.trod enc Try.prog w 0 (fun _ => true) true n 22 cs = some x) : ∃ v l, cs = [v] ∧ Old w w.heap.size v l := by
  rcases open_ints Try.underlying22 Try.underlying5 (by kernel_rfl) h with ⟨rfl, _⟩ | ⟨a, len, cap, zs, rfl, _, hl, hm, hz, _, hcell, hw⟩
  · obtain ⟨l, _, hb, hk⟩ := bytes_row (w := w) (a := none) (len := 0) (cap := 0) (z := []) (.inl ⟨rfl, rfl, rfl, rfl⟩)
    exact ⟨_, l, rfl, hb, hk⟩
  · obtain ⟨l, _, hb, hk⟩ := bytes_row (w := w) (a := some a) (len := len) (cap := cap) (z := zs) (.inr ⟨_, rfl, hl, hm, by simpa using hz, hcell, hw⟩)
    exact ⟨_, l, rfl, hb, hk⟩

structure Act1 where
  kind : Int
  i : Int
  p : List UInt8
  n : Int
  k : Int
def IsAct1 (w : World) (B : Nat) (c : Act1) (cs : List Value) : Prop := ∃ v, cs = [.int .u8 c.kind, .int .i64 c.i, v, .int .i64 c.n, .int .i64 c.k] ∧ Old w B v c.p ∧ (0 ≤ c.kind ∧ c.kind ≤ 255) ∧
  (-9223372036854775808 ≤ c.i ∧ c.i ≤ 9223372036854775807) ∧ (-9223372036854775808 ≤ c.n ∧ c.n ≤ 9223372036854775807) ∧ (-9223372036854775808 ≤ c.k ∧ c.k ≤ 9223372036854775807)
theorem acts1_of_trod {H : Type} {enc : TypeId × Value → H} {w : World} {v : Value} {d : DataW H} {p : List MemPlace} (hv : ∃ a len cap, v = .slice a len cap)
    (h : DataW.Trod enc Try.prog w 0 (fun _ => true) true 35 v d p) : ∃ len, Elems w w.heap.size 5 (fun cs => ∃ c, IsAct1 w w.heap.size c cs) v len :=
  elems_of_trod Try.underlying35 (by kernel_rfl) (by omega) hv h (fun n cs x hx => by
    obtain ⟨xs, m, rfl, rfl, hl, hxl, hf⟩ := DataW.trod_struct Try.underlying37 hx
    obtain ⟨c0, c1, c2, c3, c4, rfl⟩ := list5 (hl.trans (by kernel_rfl))
    have g1 : Try.prog.cellsOf 5 = 1 := by kernel_rfl
    have g2 : Try.prog.cellsOf 3 = 1 := by kernel_rfl
    have g3 : Try.prog.cellsOf 22 = 1 := by kernel_rfl
    obtain ⟨y0, y1, y2, y3, y4, rfl⟩ := list5 (hxl.trans rfl)
    have f0 := field_at hf 0 5 0 1 rfl g1
    have f1 := field_at hf 1 3 1 1 rfl g2
    have f2 := field_at hf 2 22 2 1 rfl g3
    have f3 := field_at hf 3 3 3 1 rfl g2
    have f4 := field_at hf 4 3 4 1 rfl g2
    obtain ⟨k, e0, _, h0⟩ := DataW.trod_int Try.underlying5 f0
    obtain ⟨q1, e1, _, h1⟩ := DataW.trod_int Try.underlying3 f1
    obtain ⟨v2, l2, e2, h2⟩ := bytes_of_trod f2
    obtain ⟨q3, e3, _, h3⟩ := DataW.trod_int Try.underlying3 f3
    obtain ⟨q4, e4, _, h4⟩ := DataW.trod_int Try.underlying3 f4
    simp at e0 e1 e2 e3 e4
    subst e0; subst e1; subst e2; subst e3; subst e4
    exact ⟨⟨k, q1, l2, q3, q4⟩, _, rfl, h2, u8_bd h0, i64_bd h1, i64_bd h3, i64_bd h4⟩)
theorem Elems.pick {w : World} {B size : Nat} {R : List Value → Prop} {v : Value} {len : Nat} (h : Elems w B size R v len) : ∃ a cap, v = .slice a len cap ∧ len ≤ cap ∧ cap ≤ 9223372036854775807 ∧ cap ≤ maxLen ∧
    ∀ i, i < len → ∃ b off cs, a = some ⟨b, off, none⟩ ∧ b < B ∧ cs.length = size ∧ (∀ j, j < size → w.cell? ⟨b, off + (i * size + j), none⟩ = cs[j]?) ∧ R cs := h
/-- The script as a list of acts. -/
theorem acts_list {w : World} {B : Nat} {v : Value} {len : Nat} (h : Elems w B 5 (fun cs => ∃ c, IsAct1 w B c cs) v len) :
    ∃ (a : Option Addr) (cap : Nat) (l : List Act1), v = .slice a len cap ∧ len ≤ cap ∧ cap ≤ 9223372036854775807 ∧ l.length = len ∧
      ∀ i (hi : i < l.length), ∃ b off v, a = some ⟨b, off, none⟩ ∧ b < B ∧ w.cell? ⟨b, off + i * 5, none⟩ = some (.int .u8 l[i].kind) ∧ w.cell? ⟨b, off + (i * 5 + 1), none⟩ = some (.int .i64 l[i].i) ∧
        w.cell? ⟨b, off + (i * 5 + 2), none⟩ = some v ∧ w.cell? ⟨b, off + (i * 5 + 3), none⟩ = some (.int .i64 l[i].n) ∧ w.cell? ⟨b, off + (i * 5 + 4), none⟩ = some (.int .i64 l[i].k) ∧ Old w B v l[i].p ∧
        (0 ≤ l[i].kind ∧ l[i].kind ≤ 255) ∧ (-9223372036854775808 ≤ l[i].i ∧ l[i].i ≤ 9223372036854775807) ∧ (-9223372036854775808 ≤ l[i].n ∧ l[i].n ≤ 9223372036854775807) ∧ (-9223372036854775808 ≤ l[i].k ∧ l[i].k ≤ 9223372036854775807) := by
  obtain ⟨a, cap, rfl, h1, h2, _, h3⟩ := h
  have hc : ∀ n, n ≤ len → ∃ l : List Act1, l.length = n ∧ ∀ i (hi : i < l.length), ∃ b off cs, a = some ⟨b, off, none⟩ ∧ b < B ∧ (∀ j, j < 5 → w.cell? ⟨b, off + (i * 5 + j), none⟩ = cs[j]?) ∧ IsAct1 w B l[i] cs := by
    intro n
    induction n with
    | zero => intro _; exact ⟨[], rfl, fun i hi => absurd hi (by simp)⟩
    | succ n ih =>
      intro hn
      obtain ⟨l, hl, hi⟩ := ih (by omega)
      obtain ⟨b, off, cs, e, hb, hcs, hcell, c, hact⟩ := h3 n (by omega)
      refine ⟨l ++ [c], by simp [hl], fun i hi' => ?_⟩
      by_cases hlt : i < l.length
      · obtain ⟨b, off, cs, e, hb, hcell, hact⟩ := hi i hlt
        refine ⟨b, off, cs, e, hb, hcell, ?_⟩
        rw [List.getElem_append_left hlt]; exact hact
      · have hin : i = n := by rw [List.length_append] at hi'; simp at hi'; omega
        subst hin
        refine ⟨b, off, cs, e, hb, hcell, ?_⟩
        have : (l ++ [c])[i] = c := by simp [← hl]
        rw [this]; exact hact
  obtain ⟨l, hl, hi⟩ := hc len (Nat.le_refl _)
  refine ⟨a, cap, l, rfl, h1, h2, hl, fun i hlt => ?_⟩
  obtain ⟨b, off, cs, e, hb, hcell, v, rfl, ho, k1, k2, k3, k4⟩ := hi i hlt
  exact ⟨b, off, v, e, hb, hcell 0 (by decide), hcell 1 (by decide), hcell 2 (by decide), hcell 3 (by decide), hcell 4 (by decide), ho, k1, k2, k3, k4⟩
theorem write_long_own (W : World) (B b : Nat) (st : Dk) (i : Int) (v : Value) (l : List UInt8) (w : World) (h : Own W B w b st) (hl : lookE st i = 0) (hv : Bytes w v l) (h64 : 64 < l.length) :
    Calls Try.prog 18 #[.pointer (some ⟨b, 0, none⟩), .int .i64 i, v] w fun e w' => e = .returned (.int .i64 2) ∧ w = w' :=
  write_long _ b st i v l w h.at_ hl hv h64
/-- A disk of n blocks that is on and is to stay so. -/
structure Calm (W : World) (B b n m : Nat) (st : Dk) (w : World) : Prop where
  own : Own W B w b st
  off : st.off = false
  armed : st.armed = 0
  fine : Fine st m
  sure : st.sure.length = n
  hB : B ≤ w.heap.size
theorem Calm.wrote {W w w' : World} {B b n m : Nat} {st : Dk} (h : Calm W B b n m st w) {i : Int} (hi : 0 ≤ i ∧ i < n) (l : List UInt8) (hm : m + 1 ≤ 1000000000) (ho : Own W w'.heap.size w' b (wrote st i l)) : Calm W w'.heap.size b n (m + 1) (wrote st i l) w' := by
  obtain ⟨c0, c1, c2, c3, c4⟩ := wrote_calm h.off h.armed i l
  exact ⟨ho, c1, c2, h.fine.wrote hm (by rw [h.sure]; exact hi) l, by rw [c3]; exact h.sure, Nat.le_refl _⟩
theorem Calm.look {W w : World} {B b n m : Nat} {st : Dk} (h : Calm W B b n m st w) {i : Int} (h0 : 0 ≤ i) (h1 : i < n) : lookE st i = 0 := look0 h0 (by rw [h.sure]; exact h1) h.off
theorem Calm.only {W w w' : World} {B b n m : Nat} {st : Dk} {S : Nat → Prop} (h : Calm W B b n m st w) (ho : Only S w w') (hS : ∀ k, S k → W.heap.size ≤ k ∧ B ≤ k) : Calm W B b n m st w' :=
  ⟨h.own.only ho hS, h.off, h.armed, h.fine, h.sure, Nat.le_trans h.hB ho.size⟩
theorem Calm.more {W w : World} {B b n m k : Nat} {st : Dk} (h : Calm W B b n m st w) (hk : m ≤ k) (hm : k ≤ 1000000000) : Calm W B b n k st w := ⟨h.own, h.off, h.armed, h.fine.mono hk hm, h.sure, h.hB⟩
theorem Calm.begun {W w : World} {B b n m : Nat} {st : Dk} (h : Calm W B b n m st w) : (begun st).off = false := by rw [begun_armed0 st h.armed]; exact h.off

theorem write_c (W : World) (B b n m : Nat) (st : Dk) (i : Int) (v : Value) (l : List UInt8) (w : World) (h : Calm W B b n m st w) (hi : 0 ≤ i ∧ i < n) (hv : Bytes w v l) (h64 : l.length ≤ 64) (hvB : 0 < l.length → ∀ k, v.ownBlock = some k → k < W.heap.size ∨ B ≤ k) (hm : m + 1 ≤ 1000000000) :
    Calls Try.prog 18 #[.pointer (some ⟨b, 0, none⟩), .int .i64 i, v] w fun e w' => e = .returned (.int .i64 0) ∧ Calm W w'.heap.size b n (m + 1) (wrote st i l) w' ∧ Only (Mine W B) w w' :=
  (write_own W B b st m i v l w h.own (h.look hi.1 hi.2) hv h64 hvB h.fine).mono fun e w' ⟨he, ho, hl⟩ => ⟨by rw [he, h.begun]; rfl, h.wrote hi l hm ho, hl⟩
theorem sync_c (W : World) (B b n m : Nat) (st : Dk) (w : World) (h : Calm W B b n m st w) (hn : 0 < n) (hm : m + 1 ≤ 1000000000) :
    Calls Try.prog 19 #[.pointer (some ⟨b, 0, none⟩)] w fun e w' => e = .returned (.int .i64 0) ∧ Calm W B b n (m + 1) (synced st) w' ∧ Only (Mine W B) w w' := by
  obtain ⟨d0, d1, d2, d3, d4⟩ := synced_calm h.off h.armed
  exact (sync_own W B b st m w h.own (h.look (Int.le_refl _) (by omega)) h.fine).mono fun e w' ⟨he, ho, hl⟩ => ⟨by rw [he, d0]; rfl, ⟨ho, d1, d2, h.fine.synced hm, by rw [d4, view_len]; exact h.sure, Nat.le_trans h.hB hl.size⟩, hl⟩
theorem restart_c (W : World) (B b n m : Nat) (st : Dk) (keep torn : Int) (w : World) (h : Calm W B b n m st w) :
    Calls Try.prog 20 #[.pointer (some ⟨b, 0, none⟩), .int .i64 keep, .int .i64 torn] w fun e w' => e = .returned (.int .i64 0) ∧ Calm W B b n m (restarted st keep torn) w' ∧ Only (Mine W B) w w' :=
  (restart_own W B b st m keep torn w h.own h.fine).mono fun e w' ⟨he, ho, hl⟩ => ⟨he, ⟨ho, rfl, rfl, h.fine.restarted keep torn, by rw [restarted_len]; exact h.sure, Nat.le_trans h.hB hl.size⟩, hl⟩
theorem read_c (W : World) (B b n m i : Nat) (st : Dk) (w : World) (h : Calm W B b n m st w) (hi : i < n) :
    Calls Try.prog 21 #[.pointer (some ⟨b, 0, none⟩), .int .i64 i] w fun e w' => ∃ v, e = .returned (.tuple #[v, .int .i64 0]) ∧ Bytes w' v ((view st).getD i []) ∧ Calm W B b n m st w' ∧ Only (fun _ => False) w w' :=
  (read_own W B b st m i w h.own (h.look (by omega) (by omega)) h.fine h.hB).mono fun e w' ⟨v, he, ht, ho, hl⟩ => ⟨v, he, bytes_told ht (disk_len64 ho.at_ (by rw [h.sure]; exact hi)), ⟨ho, h.off, h.armed, h.fine, h.sure, Nat.le_trans h.hB hl.size⟩, hl⟩
end Go.Proofs.Ytlkglhgndfhjeaa
