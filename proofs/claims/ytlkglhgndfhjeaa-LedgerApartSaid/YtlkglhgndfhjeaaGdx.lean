/- The disk by its view alone; slices of bytes cut. -/
import Derived.Test.YtlkglhgndfhjeaaLdg
import Derived.Test.YtlkglhgndfhjeaaRkP
namespace Go.Proofs.Ytlkglhgndfhjeaa
open Go Go.RowKit
set_option linter.unusedVariables false
set_option linter.unusedSimpArgs false
set_option maxRecDepth 100000

/-! ### p[lo:hi] -/
theorem sizeOf8 (w : World) : (sizeOf (Try.prog.elem 22)).run Try.prog w = .ok 1 w := by kernel_rfl
theorem sliced_bytes {w : World} {a : Option Addr} {c : Nat} {l : List UInt8} (h : Bytes w (.slice a l.length c) l) (lo hi : Nat) (h1 : lo ≤ hi) (h2 : hi ≤ l.length) :
    ∃ a' c', sliced a lo hi c 1 = .slice a' (hi - lo) c' ∧ Bytes w (.slice a' (hi - lo) c') ((l.take hi).drop lo) ∧ ∀ k, (Value.slice a' (hi - lo) c').ownBlock = some k → (Value.slice a l.length c).ownBlock = some k := by
  obtain ⟨a0, c0, e, g1, g2, g3⟩ := h
  injection e with e1 e2 e3
  subst e1; subst e3
  have hl : ((l.take hi).drop lo).length = hi - lo := by simp; omega
  refine ⟨_, _, rfl, ⟨_, _, by rw [hl], by rw [hl]; omega, by omega, fun hp => ?_⟩, fun k hk => ?_⟩
  · rw [hl] at hp
    obtain ⟨b, off, rfl, hb, hr⟩ := g3 (by omega)
    rw [if_neg (by omega)]
    refine ⟨b, off + lo, by simp [addr_add], hb, fun j v hv => ?_⟩
    rw [u8s_drop, List.getElem?_drop, u8s_take, List.getElem?_take] at hv
    split at hv
    · have := hr (lo + j) v hv
      rw [Nat.add_assoc]; exact this
    · cases hv
  · cases a with
    | none =>
      have e : (if c = lo then (none : Option Addr) else Option.map (fun x : Addr => x.add (lo * 1)) none) = none := by split <;> rfl
      rw [e] at hk; cases hk
    | some ad =>
      have e : ∃ A : Addr, (if c = lo then some ad else Option.map (fun x : Addr => x.add (lo * 1)) (some ad)) = some A ∧ A.block = ad.block := by
        split
        · exact ⟨ad, rfl, rfl⟩
        · refine ⟨_, rfl, ?_⟩
          unfold Addr.add
          split <;> rfl
      obtain ⟨A, e, eb⟩ := e
      rw [e] at hk
      have hk' : some A.block = some k := hk
      rw [eb] at hk'; exact hk'
theorem cutB {w : World} {a : Option Addr} {c : Nat} {l : List UInt8} (h : Bytes w (.slice a l.length c) l) (lo hi : Nat) (h1 : lo ≤ hi) (h2 : hi ≤ l.length) (k1 k2 : IntKind) :
    ∃ a' c', (∀ w', (Instr.slice 22 (.slice a l.length c) (some (.int k1 (lo : Int))) (some (.int k2 (hi : Int))) none).run Try.prog w' = .ok (.slice a' (hi - lo) c') w') ∧ Bytes w (.slice a' (hi - lo) c') ((l.take hi).drop lo) ∧ ∀ k, (Value.slice a' (hi - lo) c').ownBlock = some k → (Value.slice a l.length c).ownBlock = some k := by
  obtain ⟨a', c', e, hb, ho⟩ := sliced_bytes h lo hi h1 h2
  obtain ⟨a0, c0, e0, g1, g2, g3⟩ := h
  injection e0 with e1 e2 e3
  subst e1; subst e3
  refine ⟨a', c', fun w' => ?_, hb, ho⟩
  rw [run_slice_lh w' 22 a l.length c (by kernel_rfl) k1 k2 (lo : Int) (hi : Int) (by omega) (by omega) (by omega), sizeOf8]
  simp [Result.andThen, e]
theorem cutFrom {w : World} {a : Option Addr} {c : Nat} {l : List UInt8} (h : Bytes w (.slice a l.length c) l) (lo : Nat) (h1 : lo ≤ l.length) (k1 : IntKind) :
    ∃ a' c', (∀ w', (Instr.slice 22 (.slice a l.length c) (some (.int k1 (lo : Int))) none none).run Try.prog w' = .ok (.slice a' (l.length - lo) c') w') ∧ Bytes w (.slice a' (l.length - lo) c') (l.drop lo) ∧ ∀ k, (Value.slice a' (l.length - lo) c').ownBlock = some k → (Value.slice a l.length c).ownBlock = some k := by
  obtain ⟨a', c', e, hb, ho⟩ := sliced_bytes h lo l.length h1 (Nat.le_refl _)
  rw [List.take_length] at hb
  obtain ⟨a0, c0, e0, g1, g2, g3⟩ := h
  injection e0 with e1 e2 e3
  subst e1; subst e3
  refine ⟨a', c', fun w' => ?_, hb, ho⟩
  rw [run_slice_l w' 22 a l.length c (by kernel_rfl) k1 (lo : Int) (by omega) (by omega), sizeOf8]
  simp [Result.andThen, e]
theorem cutTo {w : World} {a : Option Addr} {c : Nat} {l : List UInt8} (h : Bytes w (.slice a l.length c) l) (hi : Nat) (h1 : hi ≤ l.length) (k1 : IntKind) :
    ∃ a' c', (∀ w', (Instr.slice 22 (.slice a l.length c) none (some (.int k1 (hi : Int))) none).run Try.prog w' = .ok (.slice a' hi c') w') ∧ Bytes w (.slice a' hi c') (l.take hi) ∧ ∀ k, (Value.slice a' hi c').ownBlock = some k → (Value.slice a l.length c).ownBlock = some k := by
  obtain ⟨a', c', e, hb, ho⟩ := sliced_bytes h 0 hi (Nat.zero_le _) h1
  simp only [Nat.sub_zero, List.drop_zero] at e hb ho
  obtain ⟨a0, c0, e0, g1, g2, g3⟩ := h
  injection e0 with e1 e2 e3
  subst e1; subst e3
  refine ⟨a', c', fun w' => ?_, hb, ho⟩
  rw [run_slice_h w' 22 a l.length c (by kernel_rfl) k1 (hi : Int) (by omega) (by omega), sizeOf8]
  simp [Result.andThen, e]

/-! ### The disk, by its view -/
/-- A disk that is on and is to stay so: its blocks, as they are read; none of its memory is X's; q: nothing waits. -/
def DX (W : World) (X : Nat → Prop) (w : World) (d : Nat) (V : List (List UInt8)) (m : Nat) (q : Bool) : Prop :=
  ∃ st, OwnX W X w d st ∧ view st = V ∧ st.off = false ∧ st.armed = 0 ∧ Fine st m ∧ (q = true → st.wait = []) ∧ ∀ k, X k → k < w.heap.size
section
variable {W w w' : World} {X Y : Nat → Prop} {d m : Nat} {V : List (List UInt8)} {q : Bool}
theorem DX.old (h : DX W X w d V m q) : Only (fun _ => False) W w := by obtain ⟨st, h1, _⟩ := h; exact h1.old
theorem DX.bound (h : DX W X w d V m q) : ∀ k, X k → k < w.heap.size := by obtain ⟨st, _, _, _, _, _, _, h7⟩ := h; exact h7
theorem DX.rows (h : DX W X w d V m q) : ∀ r ∈ V, r.length = 64 := by
  obtain ⟨st, h1, rfl, _⟩ := h
  intro r hr
  obtain ⟨i, hi, rfl⟩ := List.mem_iff_getElem.1 hr
  have hs : i < st.sure.length := by rw [← view_len]; exact hi
  have := disk_len64 h1.at_ hs
  rwa [List.getD_eq_getElem?_getD, List.getElem?_eq_getElem hi] at this
theorem DX.only {S : Nat → Prop} (h : DX W X w d V m q) (ho : Only S w w') (hS : ∀ k, k < w.heap.size → S k → W.heap.size ≤ k ∧ X k) : DX W X w' d V m q := by
  obtain ⟨st, h1, h2, h3, h4, h5, h6, h7⟩ := h
  exact ⟨st, h1.only ho hS, h2, h3, h4, h5, h6, fun k hk => Nat.lt_of_lt_of_le (h7 k hk) ho.size⟩
theorem DX.still (h : DX W X w d V m q) (ho : Only (fun _ => False) w w') : DX W X w' d V m q := h.only ho (fun _ _ h => h.elim)
/-- X may be less. -/
theorem DX.less (h : DX W X w d V m q) (hY : ∀ k, Y k → X k) : DX W Y w d V m q := by
  obtain ⟨st, ⟨F, g1, g2, g3⟩, h2, h3, h4, h5, h6, h7⟩ := h
  exact ⟨st, ⟨F, g1, fun k hk => ⟨(g2 k hk).1, (g2 k hk).2.1, fun hy => (g2 k hk).2.2 (hY k hy)⟩, g3⟩, h2, h3, h4, h5, h6, fun k hk => h7 k (hY k hk)⟩
/-- What is new since w0 may be X's, too. -/
theorem DX.more (h : DX W X w d V m q) {S : Nat → Prop} (ho : Only S w w') (hS : ∀ k, k < w.heap.size → S k → W.heap.size ≤ k ∧ X k) (hY : ∀ k, Y k → X k ∨ (w.heap.size ≤ k ∧ k < w'.heap.size)) : DX W Y w' d V m q := by
  obtain ⟨st, h1, h2, h3, h4, h5, h6, h7⟩ := h
  obtain ⟨F, g1, g2, g3⟩ := h1
  refine ⟨st, ⟨F, g1.only ho (fun k hk hl hs => (g2 k hk).2.2 (hS k hl hs).2), fun k hk => ⟨(g2 k hk).1, Nat.lt_of_lt_of_le (g2 k hk).2.1 ho.size, fun hy => ?_⟩, g3.trans' ho (fun k hk hs => by have := (hS k (Nat.lt_of_lt_of_le hk g3.size) hs).1; omega)⟩, h2, h3, h4, h5, h6, fun k hk => ?_⟩
  · rcases hY k hy with h | h
    · exact (g2 k hk).2.2 h
    · have := (g2 k hk).2.1; omega
  · rcases hY k hk with h | h
    · exact Nat.lt_of_lt_of_le (h7 k h) ho.size
    · exact h.2
theorem DX.step (h : DX W X w d V m q) {n : Nat} (hm : m ≤ n) (hn : n ≤ 1000000000) {r : Bool} (hr : r = true → q = true) : DX W X w d V n r := by
  obtain ⟨st, h1, h2, h3, h4, h5, h6, h7⟩ := h
  exact ⟨st, h1, h2, h3, h4, h5.mono hm hn, fun e => h6 (hr e), h7⟩
end
theorem write_v (W : World) (X : Nat → Prop) (d m : Nat) (V : List (List UInt8)) (q : Bool) (i : Nat) (v : Value) (l : List UInt8) (w : World) (h : DX W X w d V m q) (hi : i < V.length) (hv : Bytes w v l) (h64 : l.length ≤ 64) (hvX : 0 < l.length → ∀ k, v.ownBlock = some k → k < W.heap.size ∨ X k) (hm : m + 1 ≤ 1000000000) :
    Calls Try.prog 18 #[.pointer (some ⟨d, 0, none⟩), .int .i64 (i : Int), v] w fun e w' => e = .returned (.int .i64 0) ∧ DX W X w' d (V.set i (pad64 l)) (m + 1) false ∧ Only (fun k => W.heap.size ≤ k ∧ ¬ X k) w w' := by
  obtain ⟨st, h1, rfl, h3, h4, h5, h6, h7⟩ := h
  rw [view_len] at hi
  have hl : lookE st (i : Int) = 0 := look0 (by omega) (by omega) h3
  obtain ⟨c0, c1, c2, c3, c4⟩ := wrote_calm h3 h4 (i : Int) l
  refine (write_x W X d st m (i : Int) v l w h1 hl hv h64 hvX h7 h5).mono ?_
  rintro e w' ⟨he, ho, hn⟩
  rw [c0] at he
  exact ⟨he, ⟨_, ho, by rw [view_wrote, Int.toNat_natCast], c1, c2, h5.wrote hm ⟨by omega, by omega⟩ l, fun h => by simp at h, fun k hk => Nat.lt_of_lt_of_le (h7 k hk) hn.size⟩, hn⟩
theorem sync_v (W : World) (X : Nat → Prop) (d m : Nat) (V : List (List UInt8)) (q : Bool) (w : World) (h : DX W X w d V m q) (hi : 0 < V.length) (hm : m + 1 ≤ 1000000000) :
    Calls Try.prog 19 #[.pointer (some ⟨d, 0, none⟩)] w fun e w' => e = .returned (.int .i64 0) ∧ DX W X w' d V (m + 1) true ∧ Only (fun k => W.heap.size ≤ k ∧ ¬ X k) w w' := by
  obtain ⟨st, h1, rfl, h3, h4, h5, h6, h7⟩ := h
  rw [view_len] at hi
  have hl : lookE st 0 = 0 := look0 (by omega) (by omega) h3
  obtain ⟨c0, c1, c2, c3, c4⟩ := synced_calm h3 h4
  refine (sync_x W X d st m w h1 hl h5).mono ?_
  rintro e w' ⟨he, ho, hn⟩
  rw [c0] at he
  exact ⟨he, ⟨_, ho, view_synced st, c1, c2, h5.synced hm, fun _ => c3, fun k hk => Nat.lt_of_lt_of_le (h7 k hk) hn.size⟩, hn⟩
theorem restart_v (W : World) (X : Nat → Prop) (d m : Nat) (V : List (List UInt8)) (keep torn : Int) (w : World) (h : DX W X w d V m true) :
    Calls Try.prog 20 #[.pointer (some ⟨d, 0, none⟩), .int .i64 keep, .int .i64 torn] w fun e w' => e = .returned (.int .i64 0) ∧ DX W X w' d V m true ∧ Only (fun k => W.heap.size ≤ k ∧ ¬ X k) w w' := by
  obtain ⟨st, h1, rfl, h3, h4, h5, h6, h7⟩ := h
  refine (restart_x W X d st m keep torn w h1 h5).mono ?_
  rintro e w' ⟨he, ho, hn⟩
  exact ⟨he, ⟨_, ho, restart_still st keep torn (h6 rfl), rfl, rfl, h5.restarted keep torn, fun _ => rfl, fun k hk => Nat.lt_of_lt_of_le (h7 k hk) hn.size⟩, hn⟩
theorem read_v (W : World) (X : Nat → Prop) (d m : Nat) (V : List (List UInt8)) (q : Bool) (i : Nat) (w : World) (h : DX W X w d V m q) (hi : i < V.length) :
    Calls Try.prog 21 #[.pointer (some ⟨d, 0, none⟩), .int .i64 (i : Int)] w fun e w' => ∃ g, e = .returned (.tuple #[.slice (some ⟨g, 0, none⟩) 64 64, .int .i64 0]) ∧ w.heap.size ≤ g ∧ g < w'.heap.size ∧ Bytes w' (.slice (some ⟨g, 0, none⟩) 64 64) (V.getD i []) ∧ (V.getD i []).length = 64 ∧ Only (fun _ => False) w w' := by
  obtain ⟨st, h1, rfl, h3, h4, h5, h6, h7⟩ := h
  rw [view_len] at hi
  have hl : lookE st (i : Int) = 0 := look0 (by omega) (by omega) h3
  have hlen := disk_len64 h1.at_ hi
  refine (read_x W X d st m i w h1 hl h5).mono ?_
  rintro e w' ⟨v, he, ⟨g, hg, rfl, hb⟩, ho, hn⟩
  exact ⟨g, he, hg, (Array.getElem?_eq_some_iff.1 hb).1, bytes_told ⟨g, hg, rfl, hb⟩ hlen, hlen, hn⟩
theorem dlen_v (W : World) (X : Nat → Prop) (d m : Nat) (V : List (List UInt8)) (q : Bool) (w : World) (h : DX W X w d V m q) :
    Calls Try.prog 31 #[.pointer (some ⟨d, 0, none⟩)] w fun e w' => e = .returned (.int .i64 (V.length : Int)) ∧ w = w' := by
  obtain ⟨st, h1, rfl, _⟩ := h
  rw [view_len]
  exact dlen_any _ d st w h1.at_
def blank (n : Nat) : List (List UInt8) := List.replicate n zeros64
theorem new_v (W : World) (n : Nat) (w : World) (hW : Only (fun _ => False) W w) (h : 1 ≤ n) (h' : n ≤ 4096) :
    Calls Try.prog 17 #[.int .i64 (n : Int)] w fun e w' => ∃ d, e = .returned (.tuple #[.pointer (some ⟨d, 0, none⟩), .int .i64 0]) ∧ DX W (fun _ => False) w' d (blank n) 0 true ∧ Only (fun _ => False) w w' := by
  refine (new_own W n w hW h h').mono ?_
  rintro e w' ⟨d, he, ho, hn⟩
  exact ⟨d, he, ⟨fresh n, ho.x (fun _ _ h => h), by unfold view fresh blank; simp [settled], rfl, rfl, Fine.fresh n, fun _ => rfl, fun _ h => h.elim⟩, hn⟩
end Go.Proofs.Ytlkglhgndfhjeaa
