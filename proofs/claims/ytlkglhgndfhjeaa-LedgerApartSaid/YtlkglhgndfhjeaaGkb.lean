/- A Kept in the caller's memory; the ledger's Len, Left, Restart beside the caller's own; make([]byte, n). -/
import Derived.Test.YtlkglhgndfhjeaaGke
namespace Go.Proofs.Ytlkglhgndfhjeaa
open Go Go.RowKit
set_option linter.unusedVariables false
set_option linter.unusedSimpArgs false
set_option maxRecDepth 100000

theorem make_n (k : IntKind) (n : Nat) (hn : n ≤ 1000000) (w : World) : (Instr.makeSlice 22 (.int k (n : Int)) (.int k (n : Int))).run Try.prog w = .ok (.slice (some ⟨w.heap.size, 0, none⟩) n n) (w.alloc (.cells (u8s (List.replicate n 0)).toArray 5)) := by
  obtain ⟨i0, hi, hz0, hz1, hz2⟩ := info_parts infoU8
  have hm := run_make (P := Try.prog) w 22 5 i0 (.int .u8 0) Try.underlying22 hi hz0 k k (n : Int) (n : Int) (by omega) (by omega) (by rw [hz2]; omega) (by omega)
  rw [hz1, Int.toNat_natCast, Nat.mul_one] at hm
  have e : madeCells (Value.int .u8 0).cells n = (u8s (List.replicate n 0)).toArray := by
    rw [u8s_rep]; exact made_rep _ n
  rw [e] at hm
  exact hm
/-- A Kept at b, among the caller's own. -/
def KB (w : World) (U : Nat → Prop) (b : Nat) (s : List UInt8) (rs : List (List UInt8)) : Prop :=
  ∃ a c, w.heap[b]? = some (.cells #[strR s, .slice a rs.length c] 68 (0, 0)) ∧ U b ∧ rs.length ≤ c ∧ c ≤ maxLen ∧ StrsAt w U a rs
theorem KB.only {S U : Nat → Prop} {w w' : World} {b : Nat} {s : List UInt8} {rs : List (List UInt8)} (h : KB w U b s rs) (ho : Only S w w') (hS : ∀ k, U k → ¬ S k) : KB w' U b s rs := by
  obtain ⟨a, c, h1, h2, h3, h4, h5⟩ := h
  exact ⟨a, c, by rw [ho.block b (Array.getElem?_eq_some_iff.1 h1).1 (hS b h2)]; exact h1, h2, h3, h4, h5.only ho hS⟩
theorem KB.mono {U U' : Nat → Prop} {w : World} {b : Nat} {s : List UInt8} {rs : List (List UInt8)} (h : KB w U b s rs) (hU : ∀ k, U k → U' k) : KB w U' b s rs := by
  obtain ⟨a, c, h1, h2, h3, h4, h5⟩ := h
  exact ⟨a, c, h1, hU b h2, h3, h4, h5.weaken (fun q _ h => hU q h)⟩
theorem KB.val {U : Nat → Prop} {w : World} {b : Nat} {s : List UInt8} {rs : List (List UInt8)} (h : KB w U b s rs) : ∃ a c, w.cell? ⟨b, 0, none⟩ = some (.string ⟨s.toArray⟩) ∧ w.cell? ⟨b, 1, none⟩ = some (.slice a rs.length c) ∧ (∀ o, w.frozen? ⟨b, o, none⟩ = false) ∧ KeptV w U (.agg #[.string ⟨s.toArray⟩, .slice a rs.length c]) s rs := by
  obtain ⟨a, c, h1, h2, h3, h4, h5⟩ := h
  obtain ⟨x0, x1, xz, _⟩ := cell2 h1
  exact ⟨a, c, x0, x1, xz, a, c, rfl, h3, h4, h5⟩
/-- Another Kept stored there. -/
theorem KB.put {U U' : Nat → Prop} {w w' : World} {b : Nat} {s s' : List UInt8} {rs rs' : List (List UInt8)} (h : KB w U b s rs) {a : Option Addr} {c : Nat} (hk : KeptV w U' (.agg #[.string ⟨s'.toArray⟩, .slice a rs'.length c]) s' rs') (ho : Only (fun k => k = b) w w') (hh : w'.heap[b]? = some (.cells #[strR s', .slice a rs'.length c] 68 (0, 0))) (hU : ∀ k, U' k → U k ∧ k ≠ b) : KB w' U b s' rs' := by
  obtain ⟨_, _, h1, h2, _⟩ := h
  obtain ⟨a', c', e, k1, k2, k3⟩ := hk
  injection e with e
  have e' : (Value.slice a rs'.length c) = .slice a' rs'.length c' := by
    have := congrArg (fun x : Array Value => x[1]?) e
    simpa using this
  injection e' with e1 _ e2
  subst e1; subst e2
  exact ⟨a, c, hh, h2, k1, k2, (k3.only ho (fun k hk e => (hU k hk).2 e)).weaken (fun q _ hq => (hU q hq).1)⟩
theorem lu_len (W : World) (U : Nat → Prop) (d l m a h N : Nat) (fs : List (List UInt8)) (w : World) (hs : LU W U w d l m a h N fs) :
    Calls Try.prog 44 #[.pointer (some ⟨l, 0, none⟩)] w fun e w' => e = .returned (.int .i64 ((fs.length : Int) - 1)) ∧ w = w' := by
  obtain ⟨V, f, X, b, c, h0⟩ := hs
  have := llen_any w l d f _ h0.box h0.good.ok (by rw [h0.good.n]; exact List.length_pos_iff.2 h0.good.some_)
  rw [h0.good.n] at this; exact this
theorem lu_left (W : World) (U : Nat → Prop) (d l m a h N : Nat) (fs : List (List UInt8)) (w : World) (hs : LU W U w d l m a h N fs) :
    Calls Try.prog 41 #[.pointer (some ⟨l, 0, none⟩)] w fun e w' => e = .returned (.int .i64 ((((h - 1) * 64 : Nat) : Int) - (sizes fs : Int))) ∧ ∃ n, w' = w.drewN n := by
  obtain ⟨V, f, X, b, c, h0⟩ := hs
  have := lleft_any w l d f _ h0.box h0.good.ok
  rw [h0.good.en] at this
  unfold Fl.room at this
  rw [h0.hh] at this; exact this
theorem lu_restart (W : World) (U : Nat → Prop) (d l m a h N : Nat) (fs : List (List UInt8)) (keep torn : Int) (w : World) (hs : LU W U w d l m a h N fs) :
    Calls Try.prog 20 #[.pointer (some ⟨d, 0, none⟩), .int .i64 keep, .int .i64 torn] w fun e w' => e = .returned (.int .i64 0) ∧ LU W U w' d l m a h N fs ∧ Only (fun k => W.heap.size ≤ k ∧ ¬ U k) w w' := by
  obtain ⟨V, f, X, b, c, h0⟩ := hs
  refine (restart_v W X d m V keep torn w h0.dx).mono ?_
  rintro e w' ⟨he, hd, ho⟩
  exact ⟨he, ⟨V, f, X, b, c, ⟨hd, h0.good, h0.box.only ho (fun hs => hs.2 h0.xl), h0.tail.only ho (fun hp k hk hs => hs.2 (h0.own k hk).1), h0.own, h0.xl, h0.hl, h0.ha, h0.hh, h0.hN, h0.ht, h0.hU⟩⟩, ho.mono (fun k _ hk => ⟨hk.1, fun hu => hk.2 (h0.hU k hu).1⟩)⟩
end Go.Proofs.Ytlkglhgndfhjeaa
