/- api.Value as a tree; how it lies in memory; its bytes. -/
import Derived.Test.YtoojnpafcdaflaaWrt
namespace Go.Proofs.Ytoojnpafcdaflaa
open Go Go.RowKit
set_option linter.unusedVariables false
set_option linter.unusedSimpArgs false

inductive VT where
  | mk (k : Nat) (n : Int) (s : List UInt8) (ks : List (List UInt8)) (vs : List VT)
def strV (s : List UInt8) : Value := .string ⟨s.toArray⟩

mutual
def encV : VT → List UInt8
  | .mk k n s ks vs => encU k ++ (if k = 1 ∨ k = 3 then encU (zig n) else if k = 2 ∨ k = 4 ∨ k = 7 ∨ k = 8 then encT s else if k = 5 ∨ k = 6 then encU vs.length ++ encVs (decide (k = 6)) ks vs else [])
def encVs (o : Bool) : List (List UInt8) → List VT → List UInt8
  | _, [] => []
  | ks, v :: vs => (if o then encT (ks.headD []) else []) ++ (encV v ++ encVs o ks.tail vs)
end
mutual
def ValAt (w : World) (G : Nat → Prop) : VT → List Value → Prop
  | .mk k n s ks vs, cs => ∃ ak ck av cv, cs = [.int .u8 k, .int .i64 n, .string ⟨s.toArray⟩, .slice ak ks.length ck, .slice av vs.length cv] ∧ k < 256 ∧ (-9223372036854775808 ≤ n ∧ n ≤ 9223372036854775807) ∧ s.length ≤ 9223372036854775807 ∧
      (ks.length ≤ ck ∧ ck ≤ 9223372036854775807) ∧ (vs.length ≤ cv ∧ cv ≤ 9223372036854775807) ∧
      (0 < ks.length → ∃ b off, ak = some ⟨b, off, none⟩ ∧ G b ∧ b < w.heap.size ∧ w.rangeAt b off (ks.map strV)) ∧
      (0 < vs.length → ∃ b off, av = some ⟨b, off, none⟩ ∧ G b ∧ b < w.heap.size ∧ ValsAt w G vs b off)
def ValsAt (w : World) (G : Nat → Prop) : List VT → Nat → Nat → Prop
  | [], _, _ => True
  | v :: vs, b, off => (∃ cs, cs.length = 5 ∧ w.rangeAt b off cs ∧ ValAt w G v cs) ∧ ValsAt w G vs b (off + 5)
end
mutual
/-- Each object has as many names as values. -/
def GoodV : VT → Prop
  | .mk k n s ks vs => (k = 6 → ks.length = vs.length) ∧ GoodVs vs
def GoodVs : List VT → Prop
  | [] => True
  | v :: vs => GoodV v ∧ GoodVs vs
end
theorem goodVs_get : ∀ {vs : List VT}, GoodVs vs → ∀ (i : Nat) (h : i < vs.length), GoodV vs[i]
  | [], _, i, h => absurd h (by simp)
  | v :: vs, hg, 0, _ => hg.1
  | v :: vs, hg, i + 1, h => goodVs_get (vs := vs) hg.2 i (by simpa using h)
theorem valsAt_get {w : World} {G : Nat → Prop} : ∀ {vs : List VT} {b off : Nat}, ValsAt w G vs b off → ∀ (i : Nat) (h : i < vs.length), ∃ cs, cs.length = 5 ∧ w.rangeAt b (off + i * 5) cs ∧ ValAt w G vs[i] cs
  | [], _, _, _, i, h => absurd h (by simp)
  | v :: vs, b, off, hv, 0, _ => by simpa using hv.1
  | v :: vs, b, off, hv, i + 1, h => by
    have := valsAt_get (vs := vs) hv.2 i (by simpa using h)
    rw [show off + (i + 1) * 5 = off + 5 + i * 5 from by omega]; exact this
theorem range_only {S : Nat → Prop} {w w' : World} {b off : Nat} {cs : List Value} (h : w.rangeAt b off cs) (hb : b < w.heap.size) (ho : Only S w w') (hS : ¬ S b) : w'.rangeAt b off cs := fun j v hv => by
  rw [cell_only ho hb hS]; exact h j v hv
mutual
theorem valAt_only {S G : Nat → Prop} {w w' : World} (ho : Only S w w') (hS : ∀ k, G k → ¬ S k) : ∀ (t : VT) (cs : List Value), ValAt w G t cs → ValAt w' G t cs
  | .mk k n s ks vs, cs, h => by
    simp only [ValAt] at h ⊢
    obtain ⟨ak, ck, av, cv, e, h1, h2, h3, h4, h5, h6, h7⟩ := h
    refine ⟨ak, ck, av, cv, e, h1, h2, h3, h4, h5, fun hp => ?_, fun hp => ?_⟩
    · obtain ⟨b, off, e, hg, hb, hr⟩ := h6 hp
      exact ⟨b, off, e, hg, Nat.lt_of_lt_of_le hb ho.size, range_only hr hb ho (hS b hg)⟩
    · obtain ⟨b, off, e, hg, hb, hr⟩ := h7 hp
      exact ⟨b, off, e, hg, Nat.lt_of_lt_of_le hb ho.size, valsAt_only ho hS vs b off hb hg hr⟩
theorem valsAt_only {S G : Nat → Prop} {w w' : World} (ho : Only S w w') (hS : ∀ k, G k → ¬ S k) : ∀ (vs : List VT) (b off : Nat), b < w.heap.size → G b → ValsAt w G vs b off → ValsAt w' G vs b off
  | [], _, _, _, _, _ => trivial
  | v :: vs, b, off, hb, hg, h => by
    simp only [ValsAt] at h ⊢
    obtain ⟨⟨cs, h1, h2, h3⟩, h4⟩ := h
    exact ⟨⟨cs, h1, range_only h2 hb ho (hS b hg), valAt_only ho hS v cs h3⟩, valsAt_only ho hS vs b (off + 5) hb hg h4⟩
end
theorem encVs_snoc (o : Bool) : ∀ (ks : List (List UInt8)) (vs : List VT) (i : Nat) (h : i < vs.length), encVs o ks (vs.take (i + 1)) = encVs o ks (vs.take i) ++ ((if o then encT (ks.getD i []) else []) ++ encV vs[i])
  | ks, v :: vs, 0, _ => by cases ks <;> simp [encVs]
  | ks, v :: vs, i + 1, h => by
    have ih := encVs_snoc o ks.tail vs i (by simpa using h)
    simp only [List.take_succ_cons, encVs, ih, List.getElem_cons_succ]
    have : ks.tail.getD i [] = ks.getD (i + 1) [] := by cases ks <;> simp
    rw [this]
    simp only [List.append_assoc]
theorem encVs_le (o : Bool) (ks : List (List UInt8)) (vs : List VT) (i : Nat) (h : i < vs.length) : (encVs o ks (vs.take i)).length + ((if o then encT (ks.getD i []) else []).length + (encV vs[i]).length) ≤ (encVs o ks vs).length := by
  have e : (encVs o ks (vs.take (i + 1))).length ≤ (encVs o ks vs).length := by
    clear h
    induction vs generalizing ks i with
    | nil => simp
    | cons v vs ih =>
      cases i with
      | zero => simp only [List.take_succ_cons, List.take_zero, encVs, List.length_append]; simp
      | succ i =>
        have := ih ks.tail i
        simp only [List.take_succ_cons, encVs, List.length_append] at this ⊢
        omega
  rw [encVs_snoc o ks vs i h, List.length_append, List.length_append] at e
  exact e
theorem sizeOf_get {k : Nat} {n : Int} {s : List UInt8} {ks : List (List UInt8)} {vs : List VT} (i : Nat) (h : i < vs.length) : SizeOf.sizeOf vs[i] < SizeOf.sizeOf (VT.mk k n s ks vs) := by
  have := List.sizeOf_lt_of_mem (List.getElem_mem h)
  simp only [VT.mk.sizeOf_spec]; omega

/-! ### The writer, as a state that goes on -/
/-- From w1 on only F's blocks have turned; the writer has l, in F's blocks and such as are newer than w1. -/
def WS (F : Nat → Prop) (b : Nat) (w1 : World) (l : List UInt8) (w : World) : Prop :=
  ∃ F1 : Nat → Prop, WriterAt w F1 b l ∧ (∀ q, F1 q → q < w.heap.size ∧ (F q ∨ w1.heap.size ≤ q)) ∧ Only F w1 w
theorem WS.only {F : Nat → Prop} {b : Nat} {w1 w : World} {l : List UInt8} (h : WS F b w1 l w) : Only F w1 w := h.choose_spec.2.2
theorem WS.still {F : Nat → Prop} {b : Nat} {w1 w w' : World} {l : List UInt8} (h : WS F b w1 l w) (ho : Only (fun _ => False) w w') : WS F b w1 l w' := by
  obtain ⟨F1, h1, h2, h3⟩ := h
  exact ⟨F1, h1.still ho, fun q hq => ⟨Nat.lt_of_lt_of_le (h2 q hq).1 ho.size, (h2 q hq).2⟩, h3.trans' ho (fun _ _ h => h.elim)⟩
theorem WS.step {F F1 : Nat → Prop} {b : Nat} {w1 w w' : World} {l' : List UInt8} {e : Ending} (h2 : ∀ q, F1 q → q < w.heap.size ∧ (F q ∨ w1.heap.size ≤ q)) (h3 : Only F w1 w) (h : Wrote w F1 b l' e w') : e = .returned (.pointer (some ⟨b, 0, none⟩)) ∧ WS F b w1 l' w' := by
  obtain ⟨he, hw, ho⟩ := h
  refine ⟨he, _, hw.strict, fun q hq => ⟨hq.2, ?_⟩, h3.trans' ho (fun q hq h => (h2 q h).2.resolve_right (by omega))⟩
  rcases hq.1 with h | h
  · exact (h2 q h).2
  · exact .inr (Nat.le_trans h3.size h)
/-- The state taken up anew at a later world; what comes of it is the elder's, too. -/
theorem WS.rebase {F : Nat → Prop} {b : Nat} {w1 w wb : World} {l : List UInt8} (h : WS F b w1 l w) (ho : Only (fun _ => False) w wb) :
    ∃ F1 : Nat → Prop, WS F1 b wb l wb ∧ (∀ q, F1 q → q < w.heap.size ∧ (F q ∨ w1.heap.size ≤ q)) ∧ ∀ l' w', WS F1 b wb l' w' → WS F b w1 l' w' := by
  obtain ⟨F1, h1, h2, h3⟩ := h
  refine ⟨F1, ⟨F1, h1.still ho, fun q hq => ⟨Nat.lt_of_lt_of_le (h2 q hq).1 ho.size, .inl hq⟩, Only.refl _ _⟩, h2, ?_⟩
  rintro l' w' ⟨F2, g1, g2, g3⟩
  refine ⟨F2, g1, fun q hq => ⟨(g2 q hq).1, ?_⟩, (h3.trans' ho (fun _ _ h => h.elim)).trans' g3 (fun q hq h => (h2 q h).2.resolve_right (by omega))⟩
  rcases (g2 q hq).2 with h | h
  · exact (h2 q h).2
  · exact .inr (Nat.le_trans (Nat.le_trans h3.size ho.size) h)
theorem WS.new {w : World} {b : Nat} (h : w.heap[b]? = some (.cells #[.slice none 0 0] 26)) : WS (fun q => q = b) b w [] w :=
  ⟨fun q => q = b, ⟨rfl, _, h, Own8.nil _ _, fun k hk => by cases hk⟩, fun q hq => by subst hq; exact ⟨(Array.getElem?_eq_some_iff.1 h).1, .inl rfl⟩, Only.refl _ _⟩

def WSP (F : Nat → Prop) (b : Nat) (w1 : World) (l : List UInt8) (e : Ending) (w : World) : Prop := e = .returned (.pointer (some ⟨b, 0, none⟩)) ∧ WS F b w1 l w
theorem wUint_s (n : Nat) (F : Nat → Prop) (b : Nat) (w1 : World) (l : List UInt8) (w : World) (h : WS F b w1 l w) (hn : n < 18446744073709551616) (hl : l.length ≤ 100000000000) :
    Calls Try.prog 27 #[.pointer (some ⟨b, 0, none⟩), .int .u64 n] w (WSP F b w1 (l ++ encU n)) := by
  obtain ⟨F1, h1, h2, h3⟩ := h
  exact (wUint n F1 b l w h1 hn hl).mono fun e w' hw => WS.step h2 h3 hw
theorem wInt_s (i : Int) (F : Nat → Prop) (b : Nat) (w1 : World) (l : List UInt8) (w : World) (h : WS F b w1 l w) (h0 : -9223372036854775808 ≤ i) (hi : i ≤ 9223372036854775807) (hl : l.length ≤ 100000000000) :
    Calls Try.prog 28 #[.pointer (some ⟨b, 0, none⟩), .int .i64 i] w (WSP F b w1 (l ++ encU (zig i))) := by
  obtain ⟨F1, h1, h2, h3⟩ := h
  exact (wInt i F1 b l w h1 h0 hi hl).mono fun e w' hw => WS.step h2 h3 hw
theorem wText_s (s : List UInt8) (F : Nat → Prop) (b : Nat) (w1 : World) (l : List UInt8) (w : World) (h : WS F b w1 l w) (hs : s.length ≤ 1000000000) (hl : l.length ≤ 100000000000) :
    Calls Try.prog 18 #[.pointer (some ⟨b, 0, none⟩), .string ⟨s.toArray⟩] w (WSP F b w1 (l ++ encT s)) := by
  obtain ⟨F1, h1, h2, h3⟩ := h
  exact (wText s F1 b l w h1 hs hl).mono fun e w' hw => WS.step h2 h3 hw
theorem wDone_s (F : Nat → Prop) (b : Nat) (w1 : World) (l : List UInt8) (w : World) (h : WS F b w1 l w) (hl : l.length ≤ 100000000000) :
    Calls Try.prog 19 #[.pointer (some ⟨b, 0, none⟩)] w (Makes w l) := by
  obtain ⟨F1, h1, h2, h3⟩ := h
  exact wDone F1 b l w h1 hl
end Go.Proofs.Ytoojnpafcdaflaa
