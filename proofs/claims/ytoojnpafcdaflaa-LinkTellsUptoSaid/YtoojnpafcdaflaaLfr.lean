/- Frames: what a client asks, what a server tells: in memory, as bytes, and back, plainly. -/
import Derived.Test.YtoojnpafcdaflaaLut
namespace Go.Proofs.Ytoojnpafcdaflaa
open Go Go.RowKit
set_option linter.unusedVariables false
set_option linter.unusedSimpArgs false
set_option maxRecDepth 100000

/-- A mutation: its number, its document, its variables. -/
def MutP (w : World) (G : Nat → Prop) (x : Nat × List UInt8 × VT) (cs : List Value) : Prop := ∃ ds, cs = .int .u64 x.1 :: .string ⟨x.2.1.toArray⟩ :: ds ∧ x.1 < 18446744073709551616 ∧ x.2.1.length ≤ 9223372036854775807 ∧ ValAt w G x.2.2 ds
def EntP (w : World) (G : Nat → Prop) (x : List UInt8 × List UInt8 × List (List UInt8) × List VT) (cs : List Value) : Prop := EntAt w G x.1 x.2.1 x.2.2.1 x.2.2.2 cs
theorem mutP_keeps : Keeps MutP := fun S G w w' x cs ho hS ⟨ds, e, h1, h2, h3⟩ => ⟨ds, e, h1, h2, valAt_only ho hS _ _ h3⟩
theorem mutP_weakens : Weakens MutP := fun G G' w x cs hG ⟨ds, e, h1, h2, h3⟩ => ⟨ds, e, h1, h2, valAt_weaken hG _ _ h3⟩
theorem entP_keeps : Keeps EntP := fun S G w w' x cs ho hS ⟨ak, av, ck, cv, e, h1, h2, h3⟩ => ⟨ak, av, ck, cv, e, h1, h2, valAt_only ho hS _ _ h3⟩
theorem entP_weakens : Weakens EntP := fun G G' w x cs hG ⟨ak, av, ck, cv, e, h1, h2, h3⟩ => ⟨ak, av, ck, cv, e, h1, h2, valAt_weaken hG _ _ h3⟩

structure AskV where
  c : Nat
  ks : List (List UInt8)
  since : Nat
  ms : List (Nat × List UInt8 × VT)
structure TellV where
  c : Nat
  done : Nat
  ks : List (List UInt8)
  since : Nat
  ver : Nat
  xs : List (List UInt8 × List UInt8 × List (List UInt8) × List VT)
  gs : List (List UInt8)
/-- A slice's length and capacity. -/
def Fits (n c : Nat) : Prop := n ≤ c ∧ c ≤ maxLen
def AskAt (w : World) (G : Nat → Prop) (a : AskV) (cs : List Value) : Prop :=
  ∃ (ak : Option Addr) (ck : Nat) (al : Option Addr) (cl : Nat), cs = [.int .i64 a.c, .slice ak a.ks.length ck, .int .u64 a.since, .slice al a.ms.length cl] ∧ a.c ≤ 9223372036854775807 ∧ a.since < 18446744073709551616 ∧ Fits a.ks.length ck ∧ Fits a.ms.length cl ∧ ListAt 1 TextP w G ak a.ks ∧ ListAt 7 MutP w G al a.ms
def TellAt (w : World) (G : Nat → Prop) (t : TellV) (cs : List Value) : Prop :=
  ∃ (ak : Option Addr) (ck : Nat) (ax : Option Addr) (cx : Nat) (ag : Option Addr) (cg : Nat), cs = [.int .i64 t.c, .int .u64 t.done, .slice ak t.ks.length ck, .int .u64 t.since, .int .u64 t.ver, .slice ax t.xs.length cx, .slice ag t.gs.length cg] ∧
    t.c ≤ 9223372036854775807 ∧ t.done < 18446744073709551616 ∧ t.since < 18446744073709551616 ∧ t.ver < 18446744073709551616 ∧ Fits t.ks.length ck ∧ Fits t.xs.length cx ∧ Fits t.gs.length cg ∧ ListAt 1 TextP w G ak t.ks ∧ ListAt 4 EntP w G ax t.xs ∧ ListAt 1 TextP w G ag t.gs
theorem AskAt.only {S G : Nat → Prop} {w w' : World} {a : AskV} {cs : List Value} (h : AskAt w G a cs) (ho : Only S w w') (hS : ∀ k, G k → ¬ S k) : AskAt w' G a cs := by
  obtain ⟨ak, ck, al, cl, e, h1, h2, h3, h4, h5, h6⟩ := h
  exact ⟨ak, ck, al, cl, e, h1, h2, h3, h4, h5.only textP_keeps ho hS, h6.only mutP_keeps ho hS⟩
theorem TellAt.only {S G : Nat → Prop} {w w' : World} {t : TellV} {cs : List Value} (h : TellAt w G t cs) (ho : Only S w w') (hS : ∀ k, G k → ¬ S k) : TellAt w' G t cs := by
  obtain ⟨ak, ck, ax, cx, ag, cg, e, h1, h2, h3, h4, h5, h6, h7, h8, h9, h10⟩ := h
  exact ⟨ak, ck, ax, cx, ag, cg, e, h1, h2, h3, h4, h5, h6, h7, h8.only textP_keeps ho hS, h9.only entP_keeps ho hS, h10.only textP_keeps ho hS⟩
def encM1 (x : Nat × List UInt8 × VT) : List UInt8 := encM x.1 x.2.1 x.2.2
def encE1 (x : List UInt8 × List UInt8 × List (List UInt8) × List VT) : List UInt8 := encE x.1 x.2.1 x.2.2.1 x.2.2.2
def encAsk (a : AskV) : List UInt8 := encU 1 ++ (encU a.c ++ (encQ encT a.ks ++ (encU a.since ++ encQ encM1 a.ms)))
def encTell (t : TellV) : List UInt8 := encU 2 ++ (encU t.c ++ (encU t.done ++ (encQ encT t.ks ++ (encU t.since ++ (encU t.ver ++ (encQ encE1 t.xs ++ encQ encT t.gs))))))
/-! ### Back -/
def decE1 (l : List UInt8) : Option ((List UInt8 × List UInt8 × List (List UInt8) × List VT) × List UInt8) :=
  match decT 32 l with
  | none => none
  | some (ty, r1) => match decT 200 r1 with
    | none => none
    | some (id, r2) => match decV 24 r2 with
      | none => none
      | some (.mk k n s ks vs, r) => if k = 6 ∧ n = 0 ∧ s = [] ∧ upto ks (ks.length - 1) = true then some ((ty, id, ks, vs), r) else none
theorem decE1_iff {l ty id : List UInt8} {ks : List (List UInt8)} {vs : List VT} {r : List UInt8} : decE1 l = some ((ty, id, ks, vs), r) ↔ DecE l ty id ks vs r := by
  constructor
  · intro h
    unfold decE1 at h
    split at h
    · cases h
    · rename_i ty1 r1 h1
      split at h
      · cases h
      · rename_i id1 r2 h2
        split at h
        · cases h
        · rename_i k n s ks1 vs1 r3 h3
          split at h
          · rename_i hc
            obtain ⟨rfl, rfl, rfl, hu⟩ := hc
            simp only [Option.some.injEq, Prod.mk.injEq] at h
            obtain ⟨⟨rfl, rfl, rfl, rfl⟩, rfl⟩ := h
            exact ⟨r1, r2, h1, h2, h3, (rising_iff _).1 hu⟩
          · cases h
  · rintro ⟨r1, r2, h1, h2, h3, h4⟩
    unfold decE1
    rw [h1]; simp only
    rw [h2]; simp only
    rw [h3]
    have hu := (rising_iff ks).2 h4
    simp [objV, hu]
theorem decE1_none {l : List UInt8} : decE1 l = none ↔ ∀ ty id ks vs r, ¬ DecE l ty id ks vs r := by
  constructor
  · intro h ty id ks vs r hd
    rw [decE1_iff.2 hd] at h; cases h
  · intro h
    cases hd : decE1 l with
    | none => rfl
    | some p =>
      obtain ⟨⟨ty, id, ks, vs⟩, r⟩ := p
      exact absurd (decE1_iff.1 hd) (h _ _ _ _ _)
def okT (long : Nat) (s : List UInt8) : Prop := s.length ≤ long
def okM (x : Nat × List UInt8 × VT) : Prop := x.1 ≤ 1152921504606846976 ∧ x.2.1.length ≤ 2000 ∧ formV x.2.2 0 = true ∧ SmallV x.2.2
def okE (x : List UInt8 × List UInt8 × List (List UInt8) × List VT) : Prop := x.1.length ≤ 32 ∧ x.2.1.length ≤ 200 ∧ formV (objV x.2.2.1 x.2.2.2) 0 = true ∧ SmallV (objV x.2.2.1 x.2.2.2) ∧ Rising x.2.2.1
theorem decT_okA {long : Nat} : ∀ l s r, decT long l = some (s, r) → l = encT s ++ r ∧ okT long s := fun l s r h => decT_canon h
theorem decM_okA : ∀ l x r, decM l = some (x, r) → l = encM1 x ++ r ∧ okM x := fun l x r h => by
  obtain ⟨q, doc, t⟩ := x
  unfold decM at h
  split at h
  · cases h
  · rename_i q1 r1 h1
    split at h
    · cases h
    · rename_i d1 r2 h2
      split at h
      · cases h
      · rename_i t1 r3 h3
        simp only [Option.some.injEq, Prod.mk.injEq] at h
        obtain ⟨⟨rfl, rfl, rfl⟩, rfl⟩ := h
        obtain ⟨g1, g2⟩ := decT_canon h2
        obtain ⟨k1, k2, k3⟩ := decV_canon 24 0 rfl _ _ _ h3
        refine ⟨?_, (decU_le h1).1, g2, k2, k3⟩
        rw [decU_canon h1, g1, k1]
        simp only [encM1, encM, List.append_assoc]
theorem decE_okA : ∀ l x r, decE1 l = some (x, r) → l = encE1 x ++ r ∧ okE x := fun l x r h => by
  obtain ⟨ty, id, ks, vs⟩ := x
  obtain ⟨r1, r2, h1, h2, h3, h4⟩ := decE1_iff.1 h
  obtain ⟨g1, g2⟩ := decT_canon h1
  obtain ⟨k1, k2⟩ := decT_canon h2
  obtain ⟨m1, m2, m3⟩ := decV_canon 24 0 rfl _ _ _ h3
  refine ⟨?_, g2, k2, m2, m3, h4⟩
  rw [g1, k1, m1]
  simp only [encE1, encE, List.append_assoc]
theorem decT_back {long : Nat} {s : List UInt8} (h : okT long s) (h64 : s.length < 18446744073709551616) : ∀ r, decT long (encT s ++ r) = some (s, r) := fun r => decT_encA s r h64 h
theorem decM_back {x : Nat × List UInt8 × VT} (h : okM x) : ∀ r, decM (encM1 x ++ r) = some (x, r) := fun r => decM_enc r h.1 h.2.1 h.2.2.2 h.2.2.1
theorem decE_back {x : List UInt8 × List UInt8 × List (List UInt8) × List VT} (h : okE x) : ∀ r, decE1 (encE1 x ++ r) = some (x, r) := fun r => decE1_iff.2 (decE_enc h.1 h.2.1 h.2.2.2.1 h.2.2.1 h.2.2.2.2 r)
/-- Behind the kind. -/
def decAskB (l : List UInt8) : Option (AskV × List UInt8) :=
  match decU 4 l with
  | none => none
  | some (c, r1) => match decQ 20 (decT 32) r1 with
    | none => none
    | some (ks, r2) => match decU 1152921504606846976 r2 with
      | none => none
      | some (since, r3) => match decQ 4 decM r3 with
        | none => none
        | some (ms, r4) => some (⟨c, ks, since, ms⟩, r4)
def decTellB (l : List UInt8) : Option (TellV × List UInt8) :=
  match decU 4 l with
  | none => none
  | some (c, r1) => match decU 1152921504606846976 r1 with
    | none => none
    | some (done, r2) => match decQ 20 (decT 32) r2 with
      | none => none
      | some (ks, r3) => match decU 1152921504606846976 r3 with
        | none => none
        | some (since, r4) => match decU 1152921504606846976 r4 with
          | none => none
          | some (ver, r5) => match decQ 200 decE1 r5 with
            | none => none
            | some (xs, r6) => match decQ 40 (decT 200) r6 with
              | none => none
              | some (gs, r7) => some (⟨c, done, ks, since, ver, xs, gs⟩, r7)
def okAsk (a : AskV) : Prop := a.c ≤ 4 ∧ a.ks.length ≤ 20 ∧ (∀ s ∈ a.ks, okT 32 s) ∧ a.since ≤ 1152921504606846976 ∧ a.ms.length ≤ 4 ∧ ∀ x ∈ a.ms, okM x
def okTell (t : TellV) : Prop := t.c ≤ 4 ∧ t.done ≤ 1152921504606846976 ∧ t.ks.length ≤ 20 ∧ (∀ s ∈ t.ks, okT 32 s) ∧ t.since ≤ 1152921504606846976 ∧ t.ver ≤ 1152921504606846976 ∧ t.xs.length ≤ 200 ∧ (∀ x ∈ t.xs, okE x) ∧ t.gs.length ≤ 40 ∧ ∀ s ∈ t.gs, okT 200 s
/-- Are some bytes (without their sum) that frame? -/
def AskOf (m : List UInt8) (a : AskV) : Prop := ∃ r, decU 1 m = some (1, r) ∧ decAskB r = some (a, [])
def TellOf (m : List UInt8) (t : TellV) : Prop := ∃ r, decU 2 m = some (2, r) ∧ decTellB r = some (t, [])
theorem okT64 {long : Nat} {s : List UInt8} (hl : long ≤ 1000000) (h : okT long s) : ∀ r, decT long (encT s ++ r) = some (s, r) := decT_back h (by unfold okT at h; omega)
theorem ask_back {a : AskV} (h : okAsk a) : AskOf (encAsk a) a := by
  obtain ⟨h1, h2, h3, h4, h5, h6⟩ := h
  refine ⟨encU a.c ++ (encQ encT a.ks ++ (encU a.since ++ encQ encM1 a.ms)), decU_encA _ (by decide) (by decide), ?_⟩
  unfold decAskB
  rw [decU_encA _ (by omega) h1]; simp only
  rw [decQ_enc a.ks _ h2 (by omega) (fun x hx => okT64 (by decide) (h3 x hx))]; simp only
  rw [decU_encA _ (by omega) h4]; simp only
  have := decQ_enc (enc := encM1) (dec := decM) (most := 4) a.ms [] h5 (by omega) (fun x hx => decM_back (h6 x hx))
  rw [List.append_nil] at this
  rw [this]
theorem tell_back {t : TellV} (h : okTell t) : TellOf (encTell t) t := by
  obtain ⟨h1, h2, h3, h4, h5, h6, h7, h8, h9, h10⟩ := h
  refine ⟨encU t.c ++ (encU t.done ++ (encQ encT t.ks ++ (encU t.since ++ (encU t.ver ++ (encQ encE1 t.xs ++ encQ encT t.gs))))), decU_encA _ (by decide) (by decide), ?_⟩
  unfold decTellB
  rw [decU_encA _ (by omega) h1]; simp only
  rw [decU_encA _ (by omega) h2]; simp only
  rw [decQ_enc t.ks _ h3 (by omega) (fun x hx => okT64 (by decide) (h4 x hx))]; simp only
  rw [decU_encA _ (by omega) h5]; simp only
  rw [decU_encA _ (by omega) h6]; simp only
  rw [decQ_enc t.xs _ h7 (by omega) (fun x hx => decE_back (h8 x hx))]; simp only
  have := decQ_enc (enc := encT) (dec := decT 200) (most := 40) t.gs [] h9 (by omega) (fun x hx => okT64 (by decide) (h10 x hx))
  rw [List.append_nil] at this
  rw [this]
theorem ask_canon {m : List UInt8} {a : AskV} (h : AskOf m a) : m = encAsk a ∧ okAsk a := by
  obtain ⟨r, h0, h⟩ := h
  unfold decAskB at h
  split at h
  · cases h
  · rename_i c r1 h1
    split at h
    · cases h
    · rename_i ks r2 h2
      split at h
      · cases h
      · rename_i since r3 h3
        split at h
        · cases h
        · rename_i ms r4 h4
          simp only [Option.some.injEq, Prod.mk.injEq] at h
          obtain ⟨rfl, rfl⟩ := h
          obtain ⟨k1, k2, k3⟩ := decQ_canon decT_okA h2
          obtain ⟨m1, m2, m3⟩ := decQ_canon decM_okA h4
          refine ⟨?_, (decU_le h1).1, k2, k3, (decU_le h3).1, m2, m3⟩
          rw [decU_canon h0, decU_canon h1, k1, decU_canon h3, m1]
          simp only [encAsk, List.append_nil]
theorem tell_canon {m : List UInt8} {t : TellV} (h : TellOf m t) : m = encTell t ∧ okTell t := by
  obtain ⟨r, h0, h⟩ := h
  unfold decTellB at h
  split at h
  · cases h
  · rename_i c r1 h1
    split at h
    · cases h
    · rename_i done r2 h2
      split at h
      · cases h
      · rename_i ks r3 h3
        split at h
        · cases h
        · rename_i since r4 h4
          split at h
          · cases h
          · rename_i ver r5 h5
            split at h
            · cases h
            · rename_i xs r6 h6
              split at h
              · cases h
              · rename_i gs r7 h7
                simp only [Option.some.injEq, Prod.mk.injEq] at h
                obtain ⟨rfl, rfl⟩ := h
                obtain ⟨k1, k2, k3⟩ := decQ_canon decT_okA h3
                obtain ⟨m1, m2, m3⟩ := decQ_canon decE_okA h6
                obtain ⟨n1, n2, n3⟩ := decQ_canon decT_okA h7
                refine ⟨?_, (decU_le h1).1, (decU_le h2).1, k2, k3, (decU_le h4).1, (decU_le h5).1, m2, m3, n2, n3⟩
                rw [decU_canon h0, decU_canon h1, decU_canon h2, k1, decU_canon h4, decU_canon h5, m1, n1]
                simp only [encTell, List.append_nil]
theorem ask_one {m : List UInt8} {a a' : AskV} (h : AskOf m a) (h' : AskOf m a') : a = a' := by
  obtain ⟨r, h0, h⟩ := h
  obtain ⟨r', h0', h'⟩ := h'
  rw [h0] at h0'
  injection h0' with h0'; injection h0' with _ h0'
  subst h0'
  rw [h] at h'
  injection h' with h'; injection h' with h' _
theorem tell_one {m : List UInt8} {a a' : TellV} (h : TellOf m a) (h' : TellOf m a') : a = a' := by
  obtain ⟨r, h0, h⟩ := h
  obtain ⟨r', h0', h'⟩ := h'
  rw [h0] at h0'
  injection h0' with h0'; injection h0' with _ h0'
  subst h0'
  rw [h] at h'
  injection h' with h'; injection h' with h' _
/-- No bytes are both. -/
theorem ask_not_tell {m : List UInt8} {a : AskV} {t : TellV} (h : AskOf m a) (h' : TellOf m t) : False := by
  obtain ⟨r, h0, _⟩ := h
  obtain ⟨r', h0', _⟩ := h'
  have e1 := decU_canon h0
  rw [e1, decU_encA _ (by decide) (by decide)] at h0'
  injection h0' with h0'; injection h0' with h0' _
  cases h0'
end Go.Proofs.Ytoojnpafcdaflaa
